/- P1: what functions of the program return. No conditions beyond those in the theorems. -/
import Derived.Test.YtflfmkkcnphdcaaGreatPf57
set_option linter.all false
set_option linter.deprecated false
set_option linter.unnecessarySimpa false
set_option linter.unusedVariables false
set_option linter.unusedSimpArgs false
set_option linter.defProp false
namespace Go.Proofs.Eng
open Go Go.Proofs
abbrev w64 (n : Int) : Int := IntKind.i64.wrap n
abbrev B62 : Int := 4611686018427387904
inductive Ex where
 | mk (k i : Int) (n : ByteArray) (szs : List Int) (kids : List Ex)
def a3b (i : Int) (n : ByteArray) : Prop := mg i /\ n.size <= j7
mutual
def Ex.Is : Ex -> AV -> Prop
 | .mk k i n szs kids, a => ∃ t1 t2 kas, a = .agg [.int k, .int i, .str n, .sl (ints szs) t1, .sl kas t2] /\ t1.pure = true /\ t2.pure = true /\ a3b i n /\ szs.length <= j7 /\ kas.length <= j7 /\ Ex.IsL kids kas
def Ex.IsL : List Ex -> List AV -> Prop
 | [], [] => True
 | e :: es, a :: al => e.Is a /\ Ex.IsL es al
 | _, _ => False
end
theorem Ex.ind {P : Ex -> Prop} (h : ∀ k i n s kids, (∀ x ∈ kids, P x) -> P (.mk k i n s kids)) (e : Ex) : P e := by
 have key : ∀ n e, SizeOf.sizeOf e <= n -> P e := by
  intro n
  induction n with
  | zero => intro e he; cases e; simp at he
  | succ n ih =>
   intro e he
   cases e with
   | mk k i nm s kids =>
    refine h k i nm s kids λ x hx => ih x ?_
    have := List.sizeOf_lt_of_mem hx
    simp at he
    omega
 exact key _ e (dh _)
theorem J5 : ∀ {l : List Ex} {al : List AV}, Ex.IsL l al ↔ LIs Ex.Is l al
 | [], [] => by simp [Ex.IsL, LIs]
 | e :: es, a :: al => by simp only [Ex.IsL, LIs, J5 (l := es)]
 | [], _ :: _ => by simp [Ex.IsL, LIs]
 | _ :: _, [] => by simp [Ex.IsL, LIs]
theorem Ex.Is.opn {k i : Int} {n : ByteArray} {s : List Int} {kids : List Ex} {a : AV} (h : (Ex.mk k i n s kids).Is a) : ∃ t1 t2 kas, a = .agg [.int k, .int i, .str n, .sl (ints s) t1, .sl kas t2] /\ t1.pure = true /\ t2.pure = true /\ a3b i n /\ s.length <= j7 /\ kas.length <= j7 /\ LIs Ex.Is kids kas := by
 simp only [Ex.Is, J5] at h; exact h
theorem Ex.Is.mk {k i : Int} {n : ByteArray} {s : List Int} {kids : List Ex} {t1 t2 : Tl} {kas : List AV} (h1 : t1.pure = true) (h2 : t2.pure = true) (h3 : a3b i n) (h4 : s.length <= j7) (h5 : kas.length <= j7) (h6 : LIs Ex.Is kids kas) : (Ex.mk k i n s kids).Is (.agg [.int k, .int i, .str n, .sl (ints s) t1, .sl kas t2]) := by
 simp only [Ex.Is, J5]; exact ⟨t1, t2, kas, rfl, h1, h2, h3, h4, h5, h6⟩
theorem lu (e : Ex) : ∀ {a}, e.Is a -> ia a = true := by
 induction e using Ex.ind with
 | h k i n s kids ih =>
  intro a h
  obtain ⟨t1, t2, kas, rfl, h1, h2, _, h3, h4, h5⟩ := h.opn
  have := LIs.pure (R := λ x a => ia a = true) (λ _ _ h => h) (h5.mono λ x hx a h => ih x hx h)
  simp [m5, ku, lk, ft, gg, kl, h1, h2, this]
theorem k9 : Lu Ex.Is 5 := ⟨λ {x a} h => by
  cases x
  obtain ⟨t1, t2, kas, rfl, _⟩ := h.opn
  exact ⟨_, rfl, rfl, rfl⟩, λ {x a} h => lu x h⟩
def Ex.k : Ex -> Int | .mk k _ _ _ _ => k
def Ex.i : Ex -> Int | .mk _ i _ _ _ => i
def Ex.n : Ex -> ByteArray | .mk _ _ n _ _ => n
def Ex.s : Ex -> List Int | .mk _ _ _ s _ => s
def Ex.kids : Ex -> List Ex | .mk _ _ _ _ l => l
def Ex.zero : Ex := .mk 0 0 ⟨#[]⟩ [] []
def X4 : AV := .agg [.int 0, .int 0, .str ⟨#[]⟩, .sl [] .nil, .sl [] .nil]
mutual
def Ex.a8i : Ex -> Prop
 | .mk _ _ _ _ kids => kids.length <= vy /\ a2h kids
def a2h : List Ex -> Prop
 | [] => True
 | e :: es => e.a8i /\ a2h es
end
end Go.Proofs.Eng
namespace Go.Proofs.Eng
open Go Go.Proofs
set_option maxRecDepth 100000
def under (k : Int) (s : List Int) (j : Nat) : Int := if k = 1 \/ k = 7 /\ j = 1 then 1 else if k = 4 /\ 1 <= j /\ j <= s.length then (if s.getD (j - 1) 0 > 0 then s.getD (j - 1) 0 else 0) else 0
theorem Qz (k i : Int) (n : ByteArray) (s : List Int) (t1 t2 : Tl) (kas : List AV) (j : Nat) (hj : j <= j7) (hs : s.length <= j7) : Out md pfs 171 [.agg [.int k, .int i, .str n, .sl (ints s) t1, .sl kas t2], .int j] (· = .int (under k s j)) λ _ => False := by
 refine iu pf171_is (dg rfl) ?_
 cases h1 : (k == 1)
 ·cases h7 : (k == 7)
  ·cases h4 : (k == 4)
   ·simp only [pf171, ↓fh, wall, simprocAttr, h1, h7, h4]
    simp at h1 h7 h4
    simp [under, h1, h7, h4]
   ·cases hj1 : decide ((j : Int) >= 1)
    ·simp only [pf171, ↓fh, wall, simprocAttr, h1, h7, h4, hj1]
     simp at h1 h7 hj1
     simp [under, h1, h7, show ¬ 1 <= j by omega]
    ·cases hj2 : decide ((j : Int) <= ((ints s).length : Int))
     ·simp only [pf171, ↓fh, wall, simprocAttr, h1, h7, h4, hj1, hj2]
      simp [gr] at h1 h7 hj1 hj2
      simp [under, h1, h7, show ¬ j <= s.length by omega]
     ·have hw : IntKind.i64.wrap ((j : Int) - 1) = ((j - 1 : Nat) : Int) := by
       simp at hj1
       rw [jd (by unfold mg; unfold j7 at hj; omega)]; omega
      simp [gr] at hj1 hj2
      obtain ⟨x, g1, g2, g3⟩ := vg (l := s) (i := j - 1) (by omega)
      have hj1' : decide ((j : Int) >= 1) = true := by simp; omega
      have hj2' : decide ((j : Int) <= ((ints s).length : Int)) = true := by simp [gr]; omega
      simp only [pf171, ↓fh, wall, simprocAttr, h1, h7, h4, hj1', hj2', hw, g3, ks, ew, gt_iff_lt]
      simp at h1 h7 h4
      have : s.getD (j - 1) 0 = x := by simp [List.getD, g1]
      simp only [under, h1, h7, h4, this, hj1, hj2]
      simp [show 1 <= j by omega]
  ·cases hj1 : ((j : Int) == 1)
   ·simp at h7
    subst h7
    simp only [pf171, ↓fh, wall, simprocAttr, h1, hj1]
    simp at hj1
    simp [under, show ¬ j = 1 by omega]
   ·simp only [pf171, ↓fh, wall, simprocAttr, h1, h7, hj1]
    simp at h7 hj1
    simp [under, h7, show j = 1 by omega]
 ·simp only [pf171, ↓fh, wall, simprocAttr, h1]
  simp at h1
  simp [under, h1]
end Go.Proofs.Eng
namespace Go.Proofs.Eng
open Go Go.Proofs
set_option maxRecDepth 100000
theorem O1 {α : Type} {R : α -> AV -> Prop} (hR : Lu R 6) (f : FuncId) (caps : List AV) (hf : md f = .pure) (hcaps : ga caps = true) (p : α -> Bool) {l : List α} {al : List AV} {t : Tl} (h : LIs R l al) (hl : al.length <= j7) (hg : ∀ x ∈ l, ∀ a, R x a -> Out md pfs f (a :: caps) (· = .bool (p x)) λ _ => False) :
  Out md pfs 156 [.sl al t, .fn f caps] (λ v => ∃ r : Int, v = .int r /\ ((r = -1 /\ l.any p = false) \/ ∃ (j : Nat) (x : α), r = j /\ l[j]? = some x /\ p x = true /\ (l.take j).any p = false)) λ _ => False := by
 refine iu pf156_is (dg rfl) ?_
 simp only [pf156, ↓fh, wall, simprocAttr]
 refine iq (λ j => al.length - j) (λ j E H T => E 0 = .sl al t /\ E 1 = .fn f caps /\ E 7 = .int al.length /\ E 8 = .int j /\ j <= al.length /\ (l.take j).any p = false) ?_ 0 ?_
 ·rintro j E H T ⟨e0, e1, e7, e8, hj, hn⟩
  rcases di j al.length with hlt | hge
  ·obtain ⟨x, c, d0, d1, d3, d4, d5, d6, d7, d8⟩ := h.get hR hlt
   have hdec : decide ((j : Int) < al.length) = true := by simpa using hlt
   have hall := h.all hR
   obtain ⟨v, rfl, hc⟩ := (hg x d3 _ d8).call hf (by simp [ft, hR.pure d8, hcaps])
   cases hp : p x
   ·simp only [↓fh, wall, simprocAttr, e0, e1, e7, e8, hdec, d4, d5, d6, hall, hc, hp]
    exact j6 ⟨j + 1, by omega, e0, e1, e7, gw (by omega), by omega, by rw [bj, d0]; simp [List.any_append, hn, hp]⟩
   ·simp only [↓fh, wall, simprocAttr, e0, e1, e7, e8, hdec, d4, d5, d6, hall, hc, hp]
    exact ⟨_, rfl, .inr ⟨j, x, rfl, d0, hp, hn⟩⟩
  ·have hdec : decide ((j : Int) < al.length) = false := by simpa using hge
   simp only [↓fh, wall, simprocAttr, e0, e1, e7, e8, hdec]
   rw [au (by rw [<- h.len]; omega)] at hn
   exact ⟨_, rfl, .inl ⟨rfl, hn⟩⟩
 ·exact ⟨rfl, rfl, rfl, rfl, dj _, rfl⟩
theorem Ix (f : FuncId) (hf : md f = .pure) (p : Int -> Bool) {l : List Int} {t : Tl} (hl : l.length <= j7) (hg : ∀ x ∈ l, Out md pfs f [.int x] (· = .bool (p x)) λ _ => False) :
  Out md pfs 161 [.sl (ints l) t, .fn f []] (λ v => ∃ r : Int, v = .int r /\ ((r = -1 /\ l.any p = false) \/ ∃ (j : Nat) (x : Int), r = j /\ l[j]? = some x /\ p x = true /\ (l.take j).any p = false)) λ _ => False := by
 refine iu pf161_is (dg rfl) ?_
 simp only [pf161, ↓fh, wall, simprocAttr]
 refine iq (λ j => l.length - j) (λ j E H T => E 0 = .sl (ints l) t /\ E 1 = .fn f [] /\ E 7 = .int l.length /\ E 8 = .int j /\ j <= l.length /\ (l.take j).any p = false) ?_ 0 ?_
 ·rintro j E H T ⟨e0, e1, e7, e8, hj, hn⟩
  rcases di j l.length with hlt | hge
  ·obtain ⟨x, d0, d1, d4⟩ := vg hlt
   have hdec : decide ((j : Int) < l.length) = true := by simpa using hlt
   obtain ⟨v, rfl, hc⟩ := (hg x (aq d0)).call hf (by simp [ft, gg, ku])
   cases hp : p x
   ·simp only [↓fh, wall, simprocAttr, e0, e1, e7, e8, hdec, d4, ks, gr, hc, hp]
    exact j6 ⟨j + 1, by omega, e0, e1, e7, gw (by omega), by omega, by rw [bj, d0]; simp [List.any_append, hn, hp]⟩
   ·simp only [↓fh, wall, simprocAttr, e0, e1, e7, e8, hdec, d4, ks, gr, hc, hp]
    exact ⟨_, rfl, .inr ⟨j, x, rfl, d0, hp, hn⟩⟩
  ·have hdec : decide ((j : Int) < l.length) = false := by simpa using hge
   simp only [↓fh, wall, simprocAttr, e0, e1, e7, e8, hdec, gr]
   rw [au (by omega)] at hn
   exact ⟨_, rfl, .inl ⟨rfl, hn⟩⟩
 ·exact ⟨rfl, rfl, by rw [<- gr l]; rfl, rfl, dj _, rfl⟩
theorem Dl {p : Int -> Bool} (f : FuncId) (hf : md f = .pure) {l : List Int} {t : Tl} (ht : t.pure = true) (hl : l.length <= j7) (hg : ∀ x ∈ l, Out md pfs f [.int x] (· = .bool (p x)) λ _ => False) : Out md pfs 132 [.sl (ints l) t, .fn f []] (· = .bool (l.any p)) λ _ => False := by
 refine iu pf132_is (dg rfl) ?_
 obtain ⟨v, ⟨r, rfl, hr⟩, hc⟩ := (Ix f hf p (t := t) hl hg).call rfl (by simp [ft, gg, lk, yf, ht, kl])
 have hd : decide (r >= 0) = l.any p := by
  rcases hr with ⟨rfl, h2⟩ | ⟨j, x, rfl, h2, h3, _⟩
  ·rw [h2]; rfl
  ·have : l.any p = true := c9.2 ⟨x, aq h2, h3⟩
   rw [this]; simp
 simp only [pf132, ↓fh, wall, simprocAttr, hc, hd]
mutual
def Ex.val : Ex -> Bool
 | .mk k _ _ _ kids => if k = 1 \/ k = 6 then true else if k = 3 \/ k = 8 then a7e kids else false
def a7e : List Ex -> Bool
 | [] => true
 | e :: es => e.val && a7e es
end
mutual
def Ex.size : Ex -> Int
 | .mk _ _ _ _ kids => Ex.xp 1 kids
def Ex.xp : Int -> List Ex -> Int
 | acc, [] => acc
 | acc, e :: es => Ex.xp (IntKind.i64.wrap (acc + e.size)) es
end
mutual
def Ex.deep : Ex -> Int
 | .mk _ _ _ _ kids => IntKind.i64.wrap (Ex.Bv 0 kids + 1)
def Ex.Bv : Int -> List Ex -> Int
 | acc, [] => acc
 | acc, e :: es => Ex.Bv (if e.deep > acc then e.deep else acc) es
end
end Go.Proofs.Eng
namespace Go.Proofs.Eng
open Go Go.Proofs
set_option maxRecDepth 100000
def Hj (m : Int) (s : List Int) (l : Nat) : Bool := (l : Int) == m && s.length == 0
def Jg (i : Int) (s : List Int) (l : Nat) : Bool := s.length == 0 && decide (i < 32) && decide ((l : Int) <= 4096)
def nz (n : Int) : Bool := decide (n < 0) || decide (n > 64)
def Ho (s : List Int) (l : Nat) : Bool := decide (s.length <= 32) && l == s.length + 1 && !s.any nz
def qi (k : Int) : Bool := k == 3 || k == 5
section
variable {k i : Int} {n : ByteArray} {s : List Int} {t1 t2 : Tl} {kas : List AV}
theorem Gw (k : Int) : Out md pfs 130 [.int k] (· = .bool (qi k)) λ _ => False := by
 refine iu pf130_is (dg rfl) ?_
 cases h3 : (k == 3) <;> cases h5 : (k == 5)
 all_goals
  simp only [pf130, ↓fh, wall, simprocAttr, h3, h5]
  simp [qi, h3, h5]
theorem Lx (m : Int) : Out md pfs 127 [.agg [.int k, .int i, .str n, .sl (ints s) t1, .sl kas t2], .ip [.int m] 0] (· = .bool (Hj m s kas.length)) λ _ => False := by
 refine iu pf127_is (dg rfl) ?_
 have h0 : (((ints s).length : Int) == 0) = (s.length == 0) := by rw [gr]; cases s.length <;> rfl
 cases h3 : ((kas.length : Int) == m) <;> cases h5 : (s.length == 0)
 all_goals
  simp only [pf127, ↓fh, wall, simprocAttr, h3, h0, h5]
  simp [Hj, h3, h5]
theorem Nd : Out md pfs 128 [.agg [.int k, .int i, .str n, .sl (ints s) t1, .sl kas t2]] (· = .bool (Jg i s kas.length)) λ _ => False := by
 refine iu pf128_is (dg rfl) ?_
 have h0 : (((ints s).length : Int) == 0) = (s.length == 0) := by rw [gr]; cases s.length <;> rfl
 cases h3 : decide (i < 32) <;> cases h4 : decide ((kas.length : Int) <= 4096) <;> cases h5 : (s.length == 0)
 all_goals
  simp only [pf128, ↓fh, wall, simprocAttr, h3, h4, h0, h5]
  simp only [Jg, h3, h4, h5]
  rfl
theorem Kx (x : Int) : Out md pfs 160 [.int x] (· = .bool (nz x)) λ _ => False := by
 refine iu pf160_is (dg rfl) ?_
 cases h3 : decide (x < 0) <;> cases h4 : decide (x > 64)
 all_goals
  simp only [pf160, ↓fh, wall, simprocAttr, h3, h4]
  simp only [nz, h3, h4]
  rfl
theorem N5 (h1 : t1.pure = true) (hs : s.length <= j7) : Out md pfs 129 [.agg [.int k, .int i, .str n, .sl (ints s) t1, .sl kas t2]] (· = .bool (Ho s kas.length)) λ _ => False := by
 refine iu pf129_is (dg rfl) ?_
 have h0 : decide (((ints s).length : Int) <= 32) = decide (s.length <= 32) := by rw [gr, Bool.eq_iff_iff]; simp; omega
 have hw : decide (s.length <= 32) = true -> ((kas.length : Int) == IntKind.i64.wrap (((ints s).length : Int) + 1)) = (kas.length == s.length + 1) := by
  intro h
  rw [gr, Dr (by simp at h; unfold j7; omega), Bool.eq_iff_iff]; simp; omega
 obtain ⟨v, rfl, hc⟩ := (Dl 160 rfl (t := t1) h1 hs (λ x _ => Kx x)).call rfl (by simp [ft, gg, lk, yf, h1, kl])
 cases h3 : decide (s.length <= 32)
 ·simp only [pf129, ↓fh, wall, simprocAttr, h0, h3]
  simp only [Ho, h3]
  rfl
 ·have hw := hw h3
  cases h4 : (kas.length == s.length + 1)
  all_goals
   simp only [pf129, ↓fh, wall, simprocAttr, h0, h3, hw, h4, hc]
   simp only [Ho, h3, h4]
   rfl
end
def kf (m : Int) : AV := .fn 127 [.ip [.int m] 0]
def vn : List AV := [kf 0, kf 1, kf 2, .fn 128 [], .fn 129 [], kf 0, kf 0, kf 2, kf 2, kf 1, kf 1, kf 0]
theorem Ak (m : Int) : Out md pfs 126 [.int m] (· = kf m) λ _ => False := by
 refine iu pf126_is (dg rfl) ?_
 simp only [pf126, ↓fh, wall, simprocAttr]
 rfl
theorem Mi : Out md pfs 83 [] (· = .agg vn) λ _ => False := by
 refine iu pf83_is (dg rfl) ?_
 obtain ⟨v, rfl, c0⟩ := (Ak 0).call rfl (by simp [ft, gg, ku])
 obtain ⟨v, rfl, c1⟩ := (Ak 1).call rfl (by simp [ft, gg, ku])
 obtain ⟨v, rfl, c2⟩ := (Ak 2).call rfl (by simp [ft, gg, ku])
 simp only [pf83, ↓fh, wall, simprocAttr, c0, c1, c2, kf]
 rfl
end Go.Proofs.Eng
namespace Go.Proofs.Eng
open Go Go.Proofs
set_option maxRecDepth 100000
def kn (k : Int) : Int := if k = 1 \/ k = 9 \/ k = 10 then 1 else if k = 2 \/ k = 7 \/ k = 8 then 2 else 0
def Et (k i : Int) (s : List Int) (l : Nat) : Bool := if k = 3 then Jg i s l else if k = 4 then Ho s l else Hj (kn k) s l
def fmB (k i : Int) (n : ByteArray) (s : List Int) (l : Nat) : Bool := decide (0 <= k) && decide (k < 12) && decide (0 <= i) && (n.size == 0 || qi k) && (i == 0 || k == 0 || k == 3) && Et k i s l
def Ex.fm : Ex -> Bool
 | .mk k i n s kids => fmB k i n s kids.length
def Kp (k : Int) : AV := if k = 3 then .fn 128 [] else if k = 4 then .fn 129 [] else kf (kn k)
theorem a4h {k : Int} (h0 : 0 <= k) (h1 : k < 12) : ∃ rest, vn.drop k.toNat = Kp k :: rest := by
 have : k = 0 \/ k = 1 \/ k = 2 \/ k = 3 \/ k = 4 \/ k = 5 \/ k = 6 \/ k = 7 \/ k = 8 \/ k = 9 \/ k = 10 \/ k = 11 := by omega
 rcases this with rfl | rfl | rfl | rfl | rfl | rfl | rfl | rfl | rfl | rfl | rfl | rfl <;> exact ⟨_, rfl⟩
theorem Np {e : Ex} {a : AV} (h : e.Is a) : Out md pfs 85 [.agg vn, a] (· = .bool e.fm) λ _ => False := by
 obtain ⟨k, i, n, s, kids⟩ := e
 obtain ⟨t1, t2, kas, rfl, h1, h2, h3, h4, h5, h6⟩ := h.opn
 refine iu pf85_is (dg rfl) ?_
 have hlen := h6.len
 have hp := lu _ h
 have ez : fmB k i n s kids.length = (Ex.mk k i n s kids).fm := rfl
 obtain ⟨v, rfl, cn⟩ := (Gw k).call rfl (by simp [ft, gg, ku])
 cases hk0 : decide (k < 0)
 ·cases hk1 : decide (k >= 12)
  ·have hk0' : 0 <= k := by simpa using hk0
   have hk1' : k < 12 := by simpa using hk1
   cases hi : decide (i < 0)
   ·have hi' : 0 <= i := by simpa using hi
    obtain ⟨rest, hT⟩ := a4h hk0' hk1'
    have hcall : ∃ f caps, Kp k = .fn f caps /\ ∀ pm s0 K KP, CW (run md pfs) md pm s0 f (.agg [.int k, .int i, .str n, .sl (ints s) t1, .sl kas t2] :: caps) K KP () = K (.bool (Et k i s kas.length)) s0 := by
     by_cases k3 : k = 3
     ·obtain ⟨v, rfl, hc⟩ := (Nd (k := k) (i := i) (n := n) (s := s) (t1 := t1) (t2 := t2) (kas := kas)).call rfl (by simp [ft, gg, hp])
      exact ⟨128, [], by simp [Kp, k3], by simpa [Et, k3] using hc⟩
     ·by_cases k4 : k = 4
      ·obtain ⟨v, rfl, hc⟩ := (N5 (k := k) (i := i) (n := n) (s := s) (t1 := t1) (t2 := t2) (kas := kas) h1 h4).call rfl (by simp [ft, gg, hp])
       exact ⟨129, [], by simp [Kp, k4], by simpa [Et, k4] using hc⟩
      ·obtain ⟨v, rfl, hc⟩ := (Lx (k := k) (i := i) (n := n) (s := s) (t1 := t1) (t2 := t2) (kas := kas) (kn k)).call rfl (by simp [ft, gg, ku, Pn, hp])
       exact ⟨127, [.ip [.int (kn k)] 0], by simp [Kp, k3, k4, kf], by simpa [Et, k3, k4] using hc⟩
    obtain ⟨f, caps, hfn, hc⟩ := hcall
    rw [hfn] at hT
    have hres : fmB k i n s kids.length = ((n.size == 0 || qi k) && (i == 0 || k == 0 || k == 3) && Et k i s kids.length) := by
     simp only [fmB]
     rw [decide_eq_true hk0', decide_eq_true hk1', decide_eq_true hi']
     simp
    rw [<- hlen] at ez hres
    cases hn0 : (n.size == 0) <;> cases hn2 : qi k
    ·simp only [pf85, ↓fh, wall, simprocAttr, hk0, hk1, hi, hn0, cn, hn2]
     rw [<- ez, hres, hn0, hn2]; rfl
    all_goals
     cases x1 : (i == 0) <;> cases x2 : (k == 0) <;> cases x3 : (k == 3)
     all_goals
      simp only [pf85, ↓fh, wall, simprocAttr, hk0, hk1, hi, hn0, hn2, cn, x1, x2, x3, hk0', hk1', Nat.mul_one, hT, hc]
      rw [<- ez, hres, hn0, hn2, x1, x2, x3]
      simp
      try omega
   ·simp only [pf85, ↓fh, wall, simprocAttr, hk0, hk1, hi]
    simp at hi
    rw [<- ez]; simp [fmB, show ¬ 0 <= i by omega]
  ·simp only [pf85, ↓fh, wall, simprocAttr, hk0, hk1]
   simp at hk1
   rw [<- ez]; simp [fmB, show ¬ k < 12 by omega]
 ·simp only [pf85, ↓fh, wall, simprocAttr, hk0]
  simp at hk0
  rw [<- ez]; simp [fmB, show ¬ 0 <= k by omega]
theorem a3j {k i : Int} {n : ByteArray} {s : List Int} {l : Nat} {lo hi : Int} (hok : true = (decide (0 <= k) && decide (k < 12))) (hlh : (k = 3 /\ lo = 0 /\ hi = 4096) \/ (k = 4 /\ lo = w64 (s.length + 1) /\ hi = w64 (s.length + 1)) \/ (k ≠ 3 /\ k ≠ 4 /\ lo = kn k /\ hi = kn k)) :
  fmB k i n s l = (!decide ((l : Int) < lo) && !decide ((l : Int) > hi) && !decide ((s.length : Int) > 32) && !s.any nz && (n.size == 0 || (k == 3 || k == 5)) && !(k != 4 && decide ((s.length : Int) > 0)) && !decide (i < 0) && (if k = 3 then decide (i < 32) else (k == 0 || i == 0))) := by
 simp only [fmB, <- hok, Bool.true_and]
 have hany : s.length = 0 -> s.any nz = false := λ h => by rw [c8 h]; rfl
 have h2 : ∀ b, (n.size == 0 || qi k) = b ↔ (n.size == 0 || (k == 3 || k == 5)) = b := λ b => Iff.rfl
 generalize hN : (n.size == 0 || qi k) = N
 rw [(h2 N).1 hN]
 generalize hP : s.any nz = P at hany ⊢
 have hk : 0 <= k /\ k < 12 := by simpa using hok.symm
 have hkn : kn k = (if k = 1 \/ k = 9 \/ k = 10 then 1 else if k = 2 \/ k = 7 \/ k = 8 then 2 else 0) := rfl
 rcases hlh with ⟨h3, rfl, rfl⟩ | ⟨h4, rfl, rfl⟩ | ⟨h3, h4, rfl, rfl⟩
 ·subst h3
  rw [Bool.eq_iff_iff]
  cases P <;> cases N <;> simp [Et, Jg, -List.length_eq_zero_iff] <;> try omega
  have h0 : ¬ s.length = 0 := λ h => by have := hany h; cases this
  intros; omega
 ·subst h4
  have hw : s.length <= 32 -> w64 ((s.length : Int) + 1) = s.length + 1 := λ h => by rw [show w64 ((s.length : Int) + 1) = ((s.length + 1 : Nat) : Int) from Dr (by unfold j7; omega)]; simp
  generalize w64 ((s.length : Int) + 1) = W at *
  rw [Bool.eq_iff_iff]
  cases P <;> cases N <;> simp [Et, Ho, hP, -List.length_eq_zero_iff] <;> omega
 ·rw [Bool.eq_iff_iff]
  have h4' : (k != 4) = true := by simpa using h4
  rw [h4', if_neg h3]
  simp only [Et, Hj, if_neg h3, if_neg h4]
  clear hkn
  generalize kn k = q
  cases P <;> cases N <;> simp [-List.length_eq_zero_iff]
  ·omega
  ·have h0 : ¬ s.length = 0 := λ h => by have := hany h; cases this
   intros; omega
end Go.Proofs.Eng
namespace Go.Proofs.Eng
open Go Go.Proofs
set_option maxRecDepth 100000
abbrev AV.u8 (c : Int) : AV := .v (.int .u8 c)
def Ml (c : Int) : Bool := decide (97 <= c /\ c <= 122) || decide (65 <= c /\ c <= 90) || decide (c = 95)
theorem a62 (c : Int) : Out md pfs 131 [.u8 c] (· = .bool (Ml c)) λ _ => False := by
 refine iu pf131_is (dg rfl) ?_
 cases h1 : decide (c >= 97) <;> cases h2 : decide (c <= 122) <;> cases h3 : decide (c >= 65) <;> cases h4 : decide (c <= 90) <;> cases h5 : c == 95
 all_goals
  simp only [pf131, ↓fh, wall, simprocAttr, h1, h2, h3, h4, h5]
  simp only [decide_eq_false_iff_not, decide_eq_true_eq, beq_iff_eq, beq_eq_false_iff_ne] at h1 h2 h3 h4 h5
  refine sm ?_
  simp [Ml]
  omega
theorem R7 (c : Int) : Out md pfs 106 [.u8 c] (· = .bool (Ml c)) λ _ => False := by
 refine iu pf106_is (dg rfl) ?_
 cases h1 : decide (c >= 97) <;> cases h2 : decide (c <= 122) <;> cases h3 : decide (c >= 65) <;> cases h4 : decide (c <= 90) <;> cases h5 : c == 95
 all_goals
  simp only [pf106, ↓fh, wall, simprocAttr, h1, h2, h3, h4, h5]
  simp only [decide_eq_false_iff_not, decide_eq_true_eq, beq_iff_eq, beq_eq_false_iff_ne] at h1 h2 h3 h4 h5
  refine sm ?_
  simp [Ml]
  omega
def lz : List UInt8 -> Bool -> Bool
 | [], b => !b
 | c :: cs, b => if Ml c.toNat then lz cs false else if b then false else if (c.toNat : Int) = 46 then lz cs true else if ((c.toNat : Int) < 48 \/ 57 < (c.toNat : Int)) /\ (c.toNat : Int) ≠ 39 then false else lz cs false
def isName (s : ByteArray) : Bool := lz s.toList true && decide (s.size <= 64)
theorem Am (s : ByteArray) (hs : s.size <= j7) : Out md pfs 86 [.str s] (· = .bool (isName s)) λ _ => False := by
 refine iu pf86_is (dg rfl) ?_
 simp only [pf86, ↓fh, wall, simprocAttr]
 refine iq (λ j => s.size - j) (λ j E H T => ∃ b, E 0 = .str s /\ E 3 = .bool b /\ E 7 = .int s.size /\ E 8 = .int j /\ j <= s.size /\ lz (s.toList.drop j) b = lz s.toList true) ?_ 0 ?_
 ·rintro j E H T ⟨b, h0, h3, h7, h8, hj, hn⟩
  rcases di j s.size with hlt | hge
  ·have hd : decide ((j : Int) < s.size) = true := by simpa using hlt
   have hx : j < s.toList.length := by rw [qu]; exact hlt
   have hg : s.toList[j]? = some s.toList[j] := by simp [hx]
   have hc := (a62 (s.toList[j].toNat)).call rfl (by simp [ft, gg, ku])
   rw [bx hx] at hn
   generalize s.toList[j] = c at hn hg hc
   obtain ⟨v, rfl, hc⟩ := hc
   cases hl : Ml c.toNat
   ·cases b
    ·cases h46 : ((c.toNat : Int) == 46)
     ·cases h48 : decide ((c.toNat : Int) < 48) <;> cases h57 : decide ((c.toNat : Int) > 57) <;> cases h39 : ((c.toNat : Int) != 39)
      all_goals
       simp only [↓fh, wall, simprocAttr, h0, h3, h7, h8, hd, hg, ew, hc, hl, h46, h48, h57, h39]
       simp only [decide_eq_false_iff_not, decide_eq_true_eq, beq_iff_eq, beq_eq_false_iff_ne, bne_iff_ne, bne_eq_false_iff_eq] at h46 h48 h57 h39
       first
        | exact j6 ⟨j + 1, by omega, false, h0, h3, h7, gw (by omega), by omega, by rw [<- hn, lz, hl, if_neg (by decide), if_neg (by decide), if_neg h46, if_neg (by omega)]⟩
        | exact sm (by rw [isName, <- hn, lz, hl, if_neg (by decide), if_neg (by decide), if_neg h46, if_pos (by omega)]; rfl)
     ·simp only [↓fh, wall, simprocAttr, h0, h3, h7, h8, hd, hg, ew, hc, hl, h46]
      exact j6 ⟨j + 1, by omega, true, h0, rfl, h7, gw (by omega), by omega, by rw [<- hn, lz, hl, if_neg (by decide), if_neg (by decide), if_pos (by simpa using h46)]⟩
    ·simp only [↓fh, wall, simprocAttr, h0, h3, h7, h8, hd, hg, ew, hc, hl]
     exact sm (by rw [isName, <- hn, lz, hl]; rfl)
   ·simp only [↓fh, wall, simprocAttr, h0, h3, h7, h8, hd, hg, ew, hc, hl]
    exact j6 ⟨j + 1, by omega, false, h0, rfl, h7, gw (by omega), by omega, by rw [<- hn, lz]; simp [hl]⟩
  ·have hd : decide ((j : Int) < s.size) = false := by simpa using hge
   rw [bt (by rw [qu]; omega)] at hn
   cases b <;> cases h64 : decide ((s.size : Int) <= 64)
   all_goals
    simp only [↓fh, wall, simprocAttr, h0, h3, h7, h8, hd, h64]
    refine sm ?_
    rw [isName, <- hn, lz]
    simp at h64 ⊢
    try omega
 ·exact ⟨true, rfl, rfl, rfl, rfl, dj _, rfl⟩
theorem De (s : ByteArray) (hs : s.size <= j7) : Out md pfs 64 [.str s] (· = .bool (isName s)) λ _ => False := by
 refine iu pf64_is (dg rfl) ?_
 have he := Hr (s := s)
 cases h0 : (s.size == 0)
 ·rw [h0] at he
  cases h64 : decide ((s.size : Int) > 64)
  ·simp only [pf64, ↓fh, wall, simprocAttr, he, h64]
   refine iq (λ j => s.size - j) (λ j E H T => ∃ b, E 0 = .str s /\ E 3 = .bool b /\ E 4 = .int j /\ j <= s.size /\ lz (s.toList.drop j) b = lz s.toList true) ?_ 0 ?_
   ·rintro j E H T ⟨b, h0, h3, h4, hj, hn⟩
    rcases di j s.size with hlt | hge
    ·have hd : decide ((j : Int) < s.size) = true := by simpa using hlt
     have hx : j < s.toList.length := by rw [qu]; exact hlt
     have hg : s.toList[j]? = some s.toList[j] := by simp [hx]
     have hc := (R7 (s.toList[j].toNat)).call rfl (by simp [ft, gg, ku])
     rw [bx hx] at hn
     generalize s.toList[j] = c at hn hg hc
     obtain ⟨v, rfl, hc⟩ := hc
     cases hl : Ml c.toNat
     ·cases b
      ·cases h46 : ((c.toNat : Int) == 46)
       ·cases h48 : decide ((c.toNat : Int) < 48) <;> cases h57 : decide ((c.toNat : Int) > 57) <;> cases h39 : ((c.toNat : Int) != 39)
        all_goals
         simp only [↓fh, wall, simprocAttr, h0, h3, h4, hd, hg, ew, hc, hl, h46, h48, h57, h39]
         simp only [decide_eq_false_iff_not, decide_eq_true_eq, beq_iff_eq, beq_eq_false_iff_ne, bne_iff_ne, bne_eq_false_iff_eq] at h46 h48 h57 h39
         first
          | exact j6 ⟨j + 1, by omega, false, h0, h3, gw (by omega), by omega, by rw [<- hn, lz, hl, if_neg (by decide), if_neg (by decide), if_neg h46, if_neg (by omega)]⟩
          | exact sm (by rw [isName, <- hn, lz, hl, if_neg (by decide), if_neg (by decide), if_neg h46, if_pos (by omega)]; rfl)
       ·simp only [↓fh, wall, simprocAttr, h0, h3, h4, hd, hg, ew, hc, hl, h46]
        exact j6 ⟨j + 1, by omega, true, h0, rfl, gw (by omega), by omega, by rw [<- hn, lz, hl, if_neg (by decide), if_neg (by decide), if_pos (by simpa using h46)]⟩
      ·simp only [↓fh, wall, simprocAttr, h0, h3, h4, hd, hg, ew, hc, hl]
       exact sm (by rw [isName, <- hn, lz, hl]; rfl)
     ·cases b <;> cases h46 : ((c.toNat : Int) == 46)
      all_goals
       simp only [↓fh, wall, simprocAttr, h0, h3, h4, hd, hg, ew, hc, hl, h46]
       first
        | exact j6 ⟨j + 1, by omega, false, h0, rfl, gw (by omega), by omega, by rw [<- hn, lz]; simp [hl]⟩
        | exact j6 ⟨j + 1, by omega, false, h0, h3, gw (by omega), by omega, by rw [<- hn, lz]; simp [hl]⟩
        | (simp at h46; rw [h46] at hl; exact absurd hl (by decide))
    ·have hd : decide ((j : Int) < s.size) = false := by simpa using hge
     rw [bt (by rw [qu]; omega)] at hn
     cases b
     all_goals
      simp only [↓fh, wall, simprocAttr, h0, h3, h4, hd]
      refine sm ?_
      rw [isName, <- hn, lz]
      simp at h64 ⊢
      try omega
   ·exact ⟨true, rfl, rfl, rfl, dj _, rfl⟩
  ·simp only [pf64, ↓fh, wall, simprocAttr, he, h64]
   refine sm ?_
   simp at h64
   simp [isName]; omega
 ·rw [h0] at he
  simp only [pf64, ↓fh, wall, simprocAttr, he]
  refine sm ?_
  simp at h0
  rw [isName, c8 (l := s.toList) (by rw [qu, h0]; rfl)]
  rfl
end Go.Proofs.Eng
namespace Go.Proofs.Eng
open Go Go.Proofs
set_option maxRecDepth 100000
abbrev Gl := ByteArray × Ex
def I3 (g : Gl) (a : AV) : Prop := ∃ c, a = .agg (.str g.1 :: c) /\ g.1.size <= j7 /\ g.2.Is (.agg c)
theorem Jk : Lu I3 6 := ⟨λ {x a} h => by
  obtain ⟨c, rfl, _, h⟩ := h
  obtain ⟨c', e, hl, ho⟩ := k9.cells h
  cases e
  exact ⟨_, rfl, by simp [hl], by simpa [I5] using ho⟩, λ {x a} h => by
  obtain ⟨c, rfl, _, h⟩ := h
  have := lu _ h
  rw [m5] at this
  simp [m5, ft, ku, this]⟩
structure Pr where
 gs : List Gl
 main : Ex
def Pr.Is (p : Pr) (a : AV) : Prop := ∃ gas tg c, a = .agg (.sl gas tg :: c) /\ tg.pure = true /\ gas.length <= j7 /\ LIs I3 p.gs gas /\ p.main.Is (.agg c) /\ c.length = 5 /\ c.take 5 = c /\ c.all gv = true /\ ga c = true /\ ga gas = true /\ (gas.all λ x => x.cells.length == 6) = true
theorem vv {p : Pr} {a : AV} (h : p.Is a) : ia a = true := by
 obtain ⟨gas, tg, c, rfl, h1, h2, h3, h4, h5, h6, h7, h8, h9, _⟩ := h
 simp [m5, ft, lk, h1, h8, h9]
def uj : List Gl -> ByteArray -> Option Ex
 | [], _ => none
 | g :: gs, n => if g.1 = n then some g.2 else uj gs n
mutual
def Ex.err (gl : ByteArray -> Bool) : Int -> Ex -> Int
 | v, .mk k i n s kids => if fmB k i n s kids.length = false then 3 else if qi k = true /\ isName n = false then 29 else if k = 0 /\ decide (i >= v) = true then 24 else if k = 5 /\ gl n = false then 9 else zn gl k s v 0 kids
def zn (gl : ByteArray -> Bool) (k : Int) (s : List Int) (v : Int) : Nat -> List Ex -> Int
 | _, [] => 0
 | j, e :: es => if Ex.err gl (w64 (v + under k s j)) e = 0 then zn gl k s v (j + 1) es else Ex.err gl (w64 (v + under k s j)) e
end
abbrev Pr.gl (p : Pr) (n : ByteArray) : Bool := (uj p.gs n).isSome
end Go.Proofs.Eng
namespace Go.Proofs.Eng
open Go Go.Proofs
set_option maxRecDepth 100000
def Ex.whole (gl : ByteArray -> Bool) (e : Ex) : Int := if (e.err gl 0 != 0) = true then e.err gl 0 else if decide (e.size > 4096) = true then 5 else if decide (e.deep > 200) = true then 7 else 0
def Pr.go (p : Pr) : List Gl -> List Gl -> Int
 | _, [] => p.main.whole p.gl
 | prev, g :: gs => if isName g.1 = false then 29 else if (prev.any λ x => decide (x.1 = g.1)) = true then 8 else if (g.2.whole p.gl != 0) = true then g.2.whole p.gl else p.go (prev ++ [g]) gs
def Pr.check (p : Pr) : Int := if decide ((p.gs.length : Int) > 1000) = true then 6 else p.go [] p.gs
end Go.Proofs.Eng
namespace Go.Proofs.Eng
open Go Go.Proofs
set_option maxRecDepth 100000
def wr (c : Int) : AV := .iface 182 (.agg [.int c])
theorem qc (c : Int) : ia (wr c) = true := by simp [wr, Bp, m5, ft, gg, ku]
theorem W8 (c : Int) : Out md pfs 80 [.bool true, .int c] (· = .tup []) λ _ => False := by
 refine iu pf80_is (dg rfl) ?_
 simp only [pf80, ↓fh, wall, simprocAttr]
theorem Ui (c : Int) : Out md pfs 80 [.bool false, .int c] (λ _ => False) (· = wr c) := by
 refine iu pf80_is (dg rfl) ?_
 simp only [pf80, ↓fh, wall, simprocAttr]
 rfl
theorem y8 (c : Int) (pm : Bool) (s : ASt) (K KP : AV -> ASt -> Prop) : CW (run md pfs) md pm s 80 [.bool true, .int c] K KP () = K (.tup []) s := by
 obtain ⟨_, rfl, h⟩ := (W8 c).call rfl (by simp [ft, gg, ku])
 exact h pm s K KP
theorem zr (c : Int) (pm : Bool) (s : ASt) (K KP : AV -> ASt -> Prop) : CW (run md pfs) md pm s 80 [.bool false, .int c] K KP () = KP (wr c) s := by
 obtain ⟨_, rfl, h⟩ := (Ui c).a1z rfl (by simp [ft, gg, ku])
 exact h pm s K KP
def ov (es : List (AV × AV)) (gl : ByteArray -> Bool) : Prop := ∀ n, ml (.sc true) (.str n) es = some (if gl n then some (.bool true) else none)
theorem Xv (gl : ByteArray -> Bool) (ci mi : Nat) (fz : Bool) (es : List (AV × AV)) (hS : ov es gl) (e : Ex) : ∀ {a v H0 T}, e.Is a -> H0[ci]? = some (.cells fz (vn ++ [.mp mi])) -> H0[mi]? = some (.map es) ->
  Sh md pfs 144 [.ptr ci 0, a, .int v] ⟨H0, T⟩ (λ x s' => e.err gl v = 0 /\ x = .tup [.int e.size, .int e.deep] /\ Fy H0 s') (λ x s' => e.err gl v ≠ 0 /\ x = wr (e.err gl v) /\ Fy H0 s') := by
 induction e using Ex.ind with
 | h k i n s kids ih =>
 intro a v H0 T h hc0 hm0
 obtain ⟨t1, t2, kas, rfl, g1, g2, g3, g4, g5, g6⟩ := h.opn
 have hc := gz hc0
 have hm := gz hm0
 have tl1 : (vn ++ [AV.mp mi]).length = 13 := rfl
 have tl2 : (vn ++ [AV.mp mi]).take 12 = vn := rfl
 have tl3 : (vn ++ [AV.mp mi]).drop 12 = [AV.mp mi] := rfl
 have tlp : ga vn = true := by decide
 obtain ⟨_, rfl, cf⟩ := (Np h).call rfl (by simp [ft, gg, m5, tlp, lu _ h])
 obtain ⟨_, rfl, cn⟩ := (Am n g3.2).call rfl (by simp [ft, gg, ku])
 obtain ⟨_, rfl, cd⟩ := (Gw k).call rfl (by simp [ft, gg, ku])
 refine jz pf144_is (dg rfl) ?_
 have hmore : ∀ G T, Fy H0 ⟨H0 ++ G, T⟩ := λ G T => ⟨G, T, rfl⟩
 simp only [Ex.err]
 rw [show fmB k i n s kids.length = Ex.fm (.mk k i n s kids) from rfl]
 cases hf : (Ex.fm (.mk k i n s kids))
 ·simp only [pf144, ↓fh, wall, simprocAttr, wH, hc, hm, tl1, tl2, tl3, cf, hf, zr, qc]
  exact (by first | exact hmore _ _ | exact ⟨by decide, hmore _ _⟩)
 ·rw [if_neg (by decide)]
  have hnb : qi k = (k == 3 || k == 5) := rfl
  obtain ⟨gb, hgb⟩ : ∃ b, gl n = b := ⟨_, rfl⟩
  obtain ⟨nm, hnm⟩ : ∃ b, isName n = b := ⟨_, rfl⟩
  obtain ⟨iv, hiv⟩ : ∃ b, decide (i >= v) = b := ⟨_, rfl⟩
  obtain ⟨nb, hnb2⟩ : ∃ b, qi k = b := ⟨_, rfl⟩
  have hiv' : decide (i < v) = !iv := by rw [<- hiv, Bool.eq_iff_iff]; simp
  have hlk := hS n
  rw [hnm, hgb, hiv, hnb2]
  rw [hnm] at cn
  rw [hnb2] at cd
  rw [hgb] at hlk
  by_cases hN : nb = true /\ nm = false
  ·rw [if_pos hN]
   obtain ⟨rfl, rfl⟩ := hN
   simp only [pf144, ↓fh, wall, simprocAttr, wH, hc, hm, tl1, tl2, tl3, cf, hf, cd, cn, zr, y8, qc]
   exact (by first | exact hmore _ _ | exact ⟨by decide, hmore _ _⟩)
  rw [if_neg hN]
  have key : ∀ x0 x5 : Bool, (k != 0) = !x0 -> (k != 5) = !x5 -> (nb = true -> nm = true) -> (x5 = true -> nb = true) -> W (run md pfs) md pf144.body ⟨tmE pf144.nt (tw [.ptr ci 0, .agg [.int k, .int i, .str n, .sl (ints s) t1, .sl kas t2], .int v]), [], ⟨H0, T⟩⟩ (SQ pf144.res (λ x s' => (if x0 = true /\ iv = true then 24 else if x5 = true /\ gb = false then 9 else zn gl k s v 0 kids) = 0 /\ x = .tup [.int (Ex.size (.mk k i n s kids)), .int (Ex.deep (.mk k i n s kids))] /\ Fy H0 s') (λ x s' => (if x0 = true /\ iv = true then 24 else if x5 = true /\ gb = false then 9 else zn gl k s v 0 kids) ≠ 0 /\ x = wr (if x0 = true /\ iv = true then 24 else if x5 = true /\ gb = false then 9 else zn gl k s v 0 kids) /\ Fy H0 s')) () := by
   intro x0 x5 hx0 hx5 a1 a2
   by_cases hS' : x0 = true /\ iv = true
   ·rw [if_pos hS']
    obtain ⟨rfl, rfl⟩ := hS'
    cases nb
    all_goals try (have b1 := a1 rfl; subst b1)
    all_goals
     simp only [pf144, ↓fh, wall, simprocAttr, wH, hc, hm, tl1, tl2, tl3, cf, hf, cd, cn, hx0, hiv', zr, y8, qc]
     exact (by first | exact hmore _ _ | exact ⟨by decide, hmore _ _⟩)
   rw [if_neg hS']
   by_cases hG : x5 = true /\ gb = false
   ·rw [if_pos hG]
    obtain ⟨rfl, rfl⟩ := hG
    have b2 := a2 rfl; subst b2
    have b1 := a1 rfl; subst b1
    simp only [dx, if_false] at hlk
    have a3 : x0 = true -> iv = false := λ h => by cases iv; rfl; exact absurd ⟨h, rfl⟩ hS'
    cases x0
    all_goals try (have b3 := a3 rfl; subst b3)
    all_goals
     simp only [pf144, ↓fh, wall, simprocAttr, wH, hc, hm, tl1, tl2, tl3, cf, hf, cd, cn, hx0, hx5, hiv', hlk, xq, zr, y8, qc]
     exact (by first | exact hmore _ _ | exact ⟨by decide, hmore _ _⟩)
   rw [if_neg hG]
   have a3 : x0 = true -> iv = false := λ h => by cases iv; rfl; exact absurd ⟨h, rfl⟩ hS'
   have a4 : x5 = true -> gb = true := λ h => by cases gb; exact absurd ⟨h, rfl⟩ hG; rfl
   cases x0 <;> cases x5 <;> cases nb
   all_goals try (have b1 := a1 rfl; subst b1)
   all_goals try (have b2 := a2 rfl; cases b2)
   all_goals try (have b3 := a3 rfl; subst b3)
   all_goals try (have b4 := a4 rfl; subst b4; simp only [if_true] at hlk)
   all_goals
    simp only [pf144, ↓fh, wall, simprocAttr, wH, hc, hm, tl1, tl2, tl3, cf, hf, cd, cn, hx0, hx5, hiv', hlk, xq, zr, y8, qc]
    refine iq (λ j => kas.length - j) (λ j E H T => ∃ G acc dep, H = H0 ++ (.cells false [.int k, .int i, .str n, .sl (ints s) t1, .sl kas t2] :: G) /\ E 0 = .ptr ci 0 /\ E 2 = .int v /\ E 4 = .ptr H0.length 0 /\ E 8 = .int acc /\ E 9 = .int dep /\ E 55 = .sl kas t2 /\ E 56 = .int kas.length /\ E 57 = .int j /\ j <= kas.length /\
     zn gl k s v j (kids.drop j) = zn gl k s v 0 kids /\ Ex.xp acc (kids.drop j) = Ex.xp 1 kids /\ Ex.Bv dep (kids.drop j) = Ex.Bv 0 kids) ?_ 0 ⟨_, 1, 0, rfl, rfl, rfl, rfl, rfl, rfl, rfl, rfl, rfl, dj _, rfl, rfl, rfl⟩
    rintro j E H T ⟨G, acc, dep, rfl, e0, e2, e4, e8, e9, e55, e56, e57, hj, hn1, hn2, hn3⟩
    rcases di j kas.length with hlt | hge
    ·obtain ⟨y, c2, d0, d1, d3, d4, d5, d6, d7, d8⟩ := g6.get k9 hlt
     have hdec : decide ((j : Int) < kas.length) = true := by simpa using hlt
     have hall := g6.all k9
     obtain ⟨_, rfl, cb⟩ := (Qz k i n s t1 t2 kas j (by omega) g4).call rfl (by simp [ft, gg, ku, lu _ h])
     rw [d1] at hn1 hn2 hn3
     simp only [zn, Ex.xp, Ex.Bv] at hn1 hn2 hn3
     rcases (ih y d3 (v := w64 (v + under k s j)) (H0 := H0 ++ (.cells false [.int k, .int i, .str n, .sl (ints s) t1, .sl kas t2] :: (G ++ [.cells false c2]))) (T := T) d8 (hc _) (hm _)).call rfl with ⟨r, s1, ⟨z1, rfl, G', T', rfl⟩, cr⟩ | ⟨r, s1, ⟨z1, rfl, G', T', rfl⟩, cr⟩
     ·simp only [↓fh, wall, simprocAttr, wH, hc, hm, e0, e2, e4, e8, e9, e55, e56, e57, hdec, d4, d5, d6, d7, hall, cb, cr]
      rw [if_pos z1] at hn1
      exact j6 ⟨j + 1, by omega, _, _, _, rfl, e0, e2, e4, rfl, rfl, e55, e56, gw (by omega), by omega, hn1, hn2, hn3⟩
     ·simp only [↓fh, wall, simprocAttr, wH, hc, hm, e0, e2, e4, e8, e9, e55, e56, e57, hdec, d4, d5, d6, d7, hall, cb, cr, qc]
      rw [if_neg z1] at hn1
      rw [<- hn1]
      exact ⟨z1, rfl, hmore _ _⟩
    ·have hdec : decide ((j : Int) < kas.length) = false := by simpa using hge
     rw [bt (by rw [<- g6.len]; omega)] at hn1 hn2 hn3
     simp only [↓fh, wall, simprocAttr, wH, e0, e2, e4, e8, e9, e55, e56, e57, hdec]
     refine ⟨hn1.symm, ?_, hmore _ _⟩
     simp only [Ex.size, Ex.deep, <- hn2, <- hn3, Ex.xp, Ex.Bv]
  have e0 : (k != 0) = !(k == 0) := rfl
  have e5 : (k != 5) = !(k == 5) := rfl
  have := key (k == 0) (k == 5) e0 e5 (λ h => by cases nm; exact absurd ⟨h, rfl⟩ hN; rfl) (λ h => by rw [<- hnb2, hnb, h]; simp)
  exact this.mono λ r st hr => by simpa only [beq_iff_eq] using hr
end Go.Proofs.Eng
namespace Go.Proofs.Eng
open Go Go.Proofs
set_option maxRecDepth 100000
theorem Jp (gl : ByteArray -> Bool) (ci mi : Nat) (fz : Bool) (es : List (AV × AV)) (hS : ov es gl) {e : Ex} {a : AV} {H0 : List fp} {T : List Nat} (h : e.Is a) (hc0 : H0[ci]? = some (.cells fz (vn ++ [.mp mi]))) (hm0 : H0[mi]? = some (.map es)) :
  Sh md pfs 110 [.ptr ci 0, a] ⟨H0, T⟩ (λ x s' => e.whole gl = 0 /\ x = .tup [] /\ Fy H0 s') (λ x s' => e.whole gl ≠ 0 /\ x = wr (e.whole gl) /\ Fy H0 s') := by
 have hmore : ∀ G T, Fy H0 ⟨H0 ++ G, T⟩ := λ G T => ⟨G, T, rfl⟩
 obtain ⟨c, rfl, l1, l2⟩ := k9.cells h
 have l3 : c.take 5 = c := au (by omega)
 refine jz pf110_is (dg rfl) ?_
 simp only [Ex.whole]
 rcases (Xv gl ci mi fz es hS e (v := 0) (H0 := H0 ++ [fp.cells false c]) (T := T) h (gz hc0 _) (gz hm0 _)).call rfl with ⟨r, s1, ⟨z1, rfl, G', T', rfl⟩, cr⟩ | ⟨r, s1, ⟨z1, rfl, G', T', rfl⟩, cr⟩
 ·rw [z1, if_neg (by decide)]
  cases b2 : decide (e.size > 4096)
  ·have b2' : decide (e.size <= 4096) = true := by simp at b2 ⊢; omega
   cases b3 : decide (e.deep > 200)
   ·have b3' : decide (e.deep <= 200) = true := by simp at b3 ⊢; omega
    simp only [pf110, ↓fh, wall, simprocAttr, wH, l1, l3, cr, b2', b3', y8]
    exact hmore _ _
   ·have b3' : decide (e.deep <= 200) = false := by simp at b3 ⊢; omega
    simp only [pf110, ↓fh, wall, simprocAttr, wH, l1, l3, cr, b2', b3', y8, zr, qc]
    exact (by first | exact hmore _ _ | exact ⟨by decide, hmore _ _⟩)
  ·have b2' : decide (e.size <= 4096) = false := by simp at b2 ⊢; omega
   simp only [pf110, ↓fh, wall, simprocAttr, wH, l1, l3, cr, b2', y8, zr, qc]
   exact (by first | exact hmore _ _ | exact ⟨by decide, hmore _ _⟩)
 ·rw [if_pos (by simpa using z1)]
  simp only [pf110, ↓fh, wall, simprocAttr, wH, l1, l3, cr, qc]
  exact ⟨z1, hmore _ _⟩
theorem Fs {call : gu} {res : List PR} {tm : List AV} {d : FuncId × List AV} {ds : List (FuncId × List AV)} {s : ASt} {p : Option AV} : jq call md pfs res ⟨tm, d :: ds, s⟩ p = match ju call md pfs (d :: ds) p s with
  | some (none, s) => (ma tm s res).map λ l => (.ret (qf l), s)
  | some (some v, s) => some (.pan v, s)
  | none => none := by cases p <;> rfl
theorem Uw {call : gu} {i : Nat} {s : ASt} : ju call md pfs [(120, [.ptr i 0])] none s = some (none, s) := by
 simp only [ju, pf120_is, pf120, PC.oy, Bool.or_false, dx, if_false, Gk, ak, ao, dk, Nat.reduceSub, List.replicate_succ, List.replicate_zero, bn, bo, mn, n8, ik, opA, evX, put, ic, bw, bu, bz, c6, ff, G8, X.isC, if_true, Bool.xor_true, dy, ma, List.isEmpty_nil, Option.isSome_some, Bool.and_true, yb]
theorem Ud {call : gu} {i : Nat} {c x : Int} {H : List fp} {T : List Nat} (h : H[i]? = some (.cells false [.int x])) : ju call md pfs [(120, [.ptr i 0])] (some (wr c)) ⟨H, T⟩ = some (none, ⟨(H ++ [fp.cells false [.int c]]).set i (.cells false [.int c]), T⟩) := by
 have h2 := gz h [fp.cells false [.int c]]
 simp only [ju, pf120_is, pf120, PC.oy, Bool.or_false, dx, if_false, Gk, wr, ak, ao, dk, Nat.reduceSub, List.replicate_succ, List.replicate_zero, bn, bo, mn, n8, ik, opA, evX, put, ic, bw, bu, bz, c6, ff, G8, X.isC, if_true, Bool.xor_true, dy, dz, ma, List.isEmpty_nil, Option.isSome_some, Bool.and_true, yb, unA, Option.bind_some, u7, ri, v8, List.getElem?_concat_length, Ez, tf, Ol, setAt, List.take_zero, List.drop_zero, da, List.all_nil, I5, and_self, dh, h2, List.drop_succ_cons, List.append_nil, List.head?_cons, List.drop_nil, Bool.true_and, Bool.xor_false, Nat.add_zero, dx, if_false]
theorem Ru {g : FuncId} {caps : List AV} (hg : md g = .shared) {H0 : List fp} {T : List Nat} {PR PP : AV -> ASt -> Prop} (h : Sh md pfs g caps ⟨H0 ++ [fp.cells false [.int 0]], T⟩ PR PP) (hPR : ∀ v s, PR v s -> s.H[H0.length]? = some (.cells false [.int 0])) (hPP : ∀ v s, PP v s -> (∃ c, v = wr c) /\ s.H[H0.length]? = some (.cells false [.int 0])) :
  Sh md pfs 77 [.fn g caps] ⟨H0, T⟩ (λ v s2 => (∃ u s1, PR u s1 /\ v = .int 0 /\ s2 = ⟨s1.H.set H0.length (.cells false [.int 0]), s1.T⟩) \/ (∃ c s1, PP (wr c) s1 /\ v = .int c /\ s2 = ⟨(s1.H ++ [fp.cells false [.int c]]).set H0.length (.cells false [.int c]), s1.T⟩)) λ _ _ => False := by
 have key := Re (md := md) pf77_is (args := [.fn g caps]) (s := ⟨H0, T⟩) (P := λ out s2 => (∃ u s1, PR u s1 /\ out = .ret (.int 0) /\ s2 = ⟨s1.H.set H0.length (.cells false [.int 0]), s1.T⟩) \/ (∃ c s1, PP (wr c) s1 /\ out = .ret (.int c) /\ s2 = ⟨(s1.H ++ [fp.cells false [.int c]]).set H0.length (.cells false [.int c]), s1.T⟩)) (dg rfl) (by
  rcases h.call hg with ⟨u, s1, hu, hc⟩ | ⟨u, s1, hu, hc⟩
  ·have hH := hPR u s1 hu
   obtain ⟨H1, T1⟩ := s1
   have hlt := fy hH
   simp only at hlt hH
   have hset : (H1.set H0.length (.cells false [.int 0]))[H0.length]? = some (.cells false [.int 0]) := by simp [hlt]
   simp only [pf77, ↓fh, wall, simprocAttr, hc, hH, a3e, Fs, Uw, hset]
   exact .inl ⟨u, _, hu, rfl⟩
  ·obtain ⟨⟨c, rfl⟩, hH⟩ := hPP u s1 hu
   obtain ⟨H1, T1⟩ := s1
   have hlt := fy hH
   simp only at hlt hH
   have hset : ((H1 ++ [fp.cells false [.int c]]).set H0.length (.cells false [.int c]))[H0.length]? = some (.cells false [.int c]) := List.getElem?_set_self (by rw [ah]; omega)
   simp only [pf77, ↓fh, wall, simprocAttr, hc, hH, a2y, Fs, Ud hH, hset]
   exact .inr ⟨c, _, hu, rfl, rfl⟩)
 obtain ⟨out, s2, hr, ⟨u, s1, h1, rfl, rfl⟩ | ⟨c, s1, h1, rfl, rfl⟩⟩ := key
 ·refine ⟨_, _, .ret (.int 0), hr, by simp only [jt.gi, j8 (n := 19) ku, ff], .inl ⟨u, s1, h1, rfl, ?_⟩⟩
  simp only [jt.frz, yp ku]
 ·refine ⟨_, _, .ret (.int c), hr, by simp only [jt.gi, j8 (n := 19) ku, ff], .inr ⟨c, s1, h1, rfl, ?_⟩⟩
  simp only [jt.frz, yp ku]
end Go.Proofs.Eng
namespace Go.Proofs.Eng
open Go Go.Proofs
set_option maxRecDepth 100000
theorem Pw (n : ByteArray) (x : AV) : ∀ es : List (AV × AV), ml (.sc true) (.str n) es ≠ none -> ∃ es', upA (.sc true) (.str n) x es = some es' /\ ∀ m, ml (.sc true) (.str m) es' = if m = n then some (some x) else ml (.sc true) (.str m) es
 | [], _ => ⟨[(.str n, x)], rfl, λ m => by
   simp only [ml, mv, xm, nq]
   by_cases h : m = n <;> simp [h]⟩
 | (k', y) :: es, h => by
  cases hk : mv (.sc true) (.str n) k' with
  | none => rw [ml, hk] at h; exact absurd rfl h
  | some b =>
   have hk' : ∃ a, k' = .str a := by
    cases k' with
    | v z => cases z with
     | string a => exact ⟨a, rfl⟩
     | _ => simp [mv, xm] at hk
    | _ => simp [mv, xm] at hk
   obtain ⟨a, rfl⟩ := hk'
   simp only [mv, xm, nq, fc] at hk
   subst hk
   by_cases ha : n = a
   ·subst ha
    refine ⟨(.str n, x) :: es, by simp [upA, mv, xm, nq], λ m => ?_⟩
    simp only [ml, mv, xm, nq]
    by_cases h : m = n <;> simp [h]
   ·simp only [ml, mv, xm, nq, ha, decide_false] at h
    obtain ⟨es', h1, h2⟩ := Pw n x es h
    refine ⟨(.str a, y) :: es', by simp [upA, mv, xm, nq, ha, h1], λ m => ?_⟩
    simp only [ml, mv, xm, nq, h2]
    by_cases h : m = a
    ·subst h; simp [Ne.symm ha]
    ·simp [h]
theorem ov.up {es : List (AV × AV)} {gl : ByteArray -> Bool} (h : ov es gl) (n : ByteArray) : ∃ es', upA (.sc true) (.str n) (.v (.bool true)) es = some es' /\ ov es' λ m => gl m || decide (m = n) := by
 obtain ⟨es', h1, h2⟩ := Pw n (.v (.bool true)) es (by rw [h n]; simp)
 refine ⟨es', h1, λ m => ?_⟩
 rw [h2 m, h m]
 by_cases hm : m = n <;> simp [hm]
theorem ov.nil : ov [] λ _ => false := λ n => by simp [ml]
theorem ov.congr {es : List (AV × AV)} {gl gl' : ByteArray -> Bool} (h : ov es gl) (e : ∀ n, gl n = gl' n) : ov es gl' := λ n => by rw [h n, e n]
theorem Ci (n : ByteArray) : ∀ gs : List Gl, (uj gs n).isSome = gs.any λ g => decide (g.1 = n)
 | [] => rfl
 | g :: gs => by
  rw [uj, List.any_cons]
  by_cases h : g.1 = n
  ·simp [h]
  ·simp [h, Ci n gs]
theorem Qn {p : Pr} {gas : List AV} {tg : Tl} {c : List AV} (hp : p.Is (.agg (.sl gas tg :: c))) {pi : Nat} {fz : Bool} {H0 : List fp} {T : List Nat} (hpi : H0[pi]? = some (.cells fz (.sl gas tg :: c))) :
  Sh md pfs 109 [.ptr pi 0] ⟨H0, T⟩ (λ x s' => p.check = 0 /\ x = .tup [] /\ Fy H0 s') (λ x s' => p.check ≠ 0 /\ x = wr p.check /\ Fy H0 s') := by
 have hmore : ∀ G T, Fy H0 ⟨H0 ++ G, T⟩ := λ G T => ⟨G, T, rfl⟩
 obtain ⟨h1, h2, h3, h4, h5, h6, h7, h8, h9, h10⟩ : _ /\ _ /\ _ /\ _ /\ _ /\ _ /\ _ /\ _ /\ _ /\ _ := by
  obtain ⟨gas', tg', c', e, h⟩ := hp
  cases e; exact h
 have hc := gz hpi
 have hl := h3.len
 have tl0 : vn.length = 12 := rfl
 have tl1 : ∀ x, (vn ++ [x]).length = 13 := λ _ => rfl
 have tl2 : ∀ x, (vn ++ [x]).take 12 = vn := λ _ => rfl
 have tl3 : ∀ x, (vn ++ [x]).drop 13 = [] := λ _ => rfl
 have tl4 : ∀ x, (vn ++ [x]).drop 12 = [x] := λ _ => rfl
 obtain ⟨_, rfl, ct⟩ := Mi.call rfl (by simp [gg])
 refine jz pf109_is (dg rfl) ?_
 simp only [Pr.check]
 rw [<- hl]
 cases b0 : decide ((gas.length : Int) > 1000)
 ·have b0' : decide ((gas.length : Int) <= 1000) = true := by simp at b0 ⊢; omega
  simp only [pf109, ↓fh, wall, simprocAttr, wH, hc, hpi, b0', y8, ct, tl0, tl1, tl2, tl3]
  refine iq (λ j => gas.length - j) (λ j E H T => ∃ es G, H = H0 ++ (.map es :: .cells false (vn ++ [.mp H0.length]) :: G) /\ E 0 = .ptr pi 0 /\ E 1 = .ptr (H0.length + 1) 0 /\ E 17 = .sl gas tg /\ E 18 = .int gas.length /\ E 19 = .int j /\ j <= gas.length /\ ov es λ n => (p.gs.take j).any λ g => decide (g.1 = n)) ?_ 0 ⟨[], [], rfl, rfl, rfl, rfl, rfl, rfl, dj _, ov.nil⟩
  rintro j E H T ⟨es, G, rfl, e0, e1, e17, e18, e19, hj, hS⟩
  rcases di j gas.length with hlt | hge
  ·obtain ⟨g, _, d0, d1, d3, d4, ⟨c2, rfl, hns, hg⟩⟩ := h3.at hlt
   obtain ⟨c3, e, b1, b2⟩ := k9.cells hg
   cases e
   have b3 : c2.take 5 = c2 := au (by omega)
   have hdec : decide ((j : Int) < gas.length) = true := by simpa using hlt
   obtain ⟨es', hup, hS'⟩ := hS.up g.1
   simp only [↓fh, wall, simprocAttr, wH, hc, e0, e1, e17, e18, e19, hdec, d4, h10, b1, b2, b3, tl4, hup, xq]
   refine j6 ⟨j + 1, by omega, es', _, rfl, e0, e1, e17, e18, gw (by omega), by omega, hS'.congr λ n => ?_⟩
   rw [bj, d0]; simp [List.any_append, eq_comm]
  ·have hdec : decide ((j : Int) < gas.length) = false := by simpa using hge
   rw [au (by omega)] at hS
   have hgl : ov es p.gl := hS.congr λ n => (Ci n p.gs).symm
   clear hS
   simp only [↓fh, wall, simprocAttr, wH, hc, e0, e1, e17, e18, e19, hdec]
   refine iq (λ j => gas.length - j) (λ j E H T => ∃ seen G2, H = H0 ++ (.map es :: .cells false (vn ++ [.mp H0.length]) :: (G ++ (.map seen :: G2))) /\ E 0 = .ptr pi 0 /\ E 1 = .ptr (H0.length + 1) 0 /\ E 4 = .mp (H0.length + (G.length + 1 + 1)) /\ E 32 = .sl gas tg /\ E 33 = .int gas.length /\ E 34 = .int j /\ j <= gas.length /\ (ov seen λ n => (p.gs.take j).any λ g => decide (g.1 = n)) /\ p.go (p.gs.take j) (p.gs.drop j) = p.go [] p.gs) ?_ 0 ⟨[], [], rfl, e0, e1, rfl, rfl, rfl, rfl, dj _, ov.nil, rfl⟩
   clear hj e17 e18 e19 hdec hge e0 e1 E j T
   rintro j E H T ⟨seen, G2, rfl, e0, e1, e4, e32, e33, e34, hj, hS, hn⟩
   rcases di j gas.length with hlt | hge
   ·obtain ⟨g, _, d0, d1, d3, d4, ⟨c2, rfl, hns, hg⟩⟩ := h3.at hlt
    obtain ⟨c3, e, b1, b2⟩ := k9.cells hg
    cases e
    have b3 : c2.take 5 = c2 := au (by omega)
    have hdec : decide ((j : Int) < gas.length) = true := by simpa using hlt
    rw [d1, Pr.go] at hn
    obtain ⟨_, rfl, cn⟩ := (Am g.1 hns).call rfl (by simp [ft, gg, ku])
    cases nm : isName g.1
    ·rw [if_pos nm] at hn
     simp only [↓fh, wall, simprocAttr, wH, hc, e0, e1, e4, e32, e33, e34, hdec, d4, h10, b1, b2, b3, cn, nm, zr, qc]
     rw [<- hn]
     exact ⟨by decide, rfl, hmore _ _⟩
    ·rw [if_neg (by rw [nm]; decide)] at hn
     have hlk : ml (.sc true) (.str g.1) seen = some (if ((p.gs.take j).any λ x => decide (x.1 = g.1)) = true then some (.bool true) else none) := hS g.1
     cases hsn : ((p.gs.take j).any λ x => decide (x.1 = g.1))
     ·rw [hsn] at hlk hn
      simp only [dx, if_false] at hlk hn
      obtain ⟨seen', hup, hS'⟩ := hS.up g.1
      rcases (Jp p.gl (H0.length + 1) H0.length false es hgl (H0 := H0 ++ (.map es :: .cells false (vn ++ [.mp H0.length]) :: (G ++ (.map seen' :: (G2 ++ [.cells false (.str g.1 :: c2)]))))) (T := T) hg (by rw [ue]; rfl) (by rw [s7]; rfl)).call rfl with ⟨r, s1, ⟨z1, rfl, G', T', rfl⟩, cr⟩ | ⟨r, s1, ⟨z1, rfl, G', T', rfl⟩, cr⟩
      ·simp only [↓fh, wall, simprocAttr, wH, hc, e0, e1, e4, e32, e33, e34, hdec, d4, h10, b1, b2, b3, cn, nm, y8, hlk, hup, cr, xq]
       rw [if_neg (by simpa using z1)] at hn
       refine j6 ⟨j + 1, by omega, seen', _, rfl, e0, e1, e4, e32, e33, gw (by omega), by omega, hS'.congr λ n => ?_, by rw [bj, d0]; exact hn⟩
       rw [bj, d0]; simp [List.any_append, eq_comm]
      ·simp only [↓fh, wall, simprocAttr, wH, hc, e0, e1, e4, e32, e33, e34, hdec, d4, h10, b1, b2, b3, cn, nm, y8, hlk, hup, cr, xq, qc]
       rw [if_pos (by simpa using z1)] at hn
       rw [<- hn]
       exact ⟨z1, rfl, hmore _ _⟩
     ·rw [hsn] at hlk hn
      simp only [if_true] at hlk hn
      simp only [↓fh, wall, simprocAttr, wH, hc, e0, e1, e4, e32, e33, e34, hdec, d4, h10, b1, b2, b3, cn, nm, y8, zr, hlk, xq, qc]
      rw [<- hn]
      exact ⟨by decide, rfl, hmore _ _⟩
   ·have hdec : decide ((j : Int) < gas.length) = false := by simpa using hge
    rw [bt (by rw [<- h3.len]; omega), Pr.go] at hn
    rcases (Jp p.gl (H0.length + 1) H0.length false es hgl (H0 := H0 ++ (.map es :: .cells false (vn ++ [.mp H0.length]) :: (G ++ (.map seen :: G2)))) (T := T) h4 (by rw [ue]; rfl) (by rw [s7]; rfl)).call rfl with ⟨r, s1, ⟨z1, rfl, G', T', rfl⟩, cr⟩ | ⟨r, s1, ⟨z1, rfl, G', T', rfl⟩, cr⟩
    ·simp only [↓fh, wall, simprocAttr, wH, hc, e0, e1, e4, e32, e33, e34, hdec, h5, h6, cr]
     rw [<- hn]
     exact ⟨z1, hmore _ _⟩
    ·simp only [↓fh, wall, simprocAttr, wH, hc, e0, e1, e4, e32, e33, e34, hdec, h5, h6, cr, qc]
     rw [<- hn]
     exact ⟨z1, rfl, hmore _ _⟩
 ·have b0' : decide ((gas.length : Int) <= 1000) = false := by simp at b0 ⊢; omega
  simp only [pf109, ↓fh, wall, simprocAttr, wH, hpi, hc, b0', zr, qc]
  exact (by first | exact ⟨[], T, by simp⟩ | exact ⟨by decide, [], T, by simp⟩)
theorem Sg {p : Pr} {pa : AV} (hp : p.Is pa) : Out md pfs 66 [pa] (· = .int p.check) λ _ => False := by
 obtain ⟨gas, tg, c, rfl, h1, h2, h3, h4, h5, h6, h7, h8, h9, h10⟩ := id hp
 refine iu pf66_is (dg rfl) ?_
 have hcs := Ru (g := 109) (caps := [.ptr 0 0]) rfl (H0 := [.cells false (.sl gas tg :: c)]) (T := []) (Qn hp (pi := 0) (fz := false) (H0 := [.cells false (.sl gas tg :: c)] ++ [.cells false [.int 0]]) (T := []) rfl) (by rintro v s ⟨_, _, G, T, rfl⟩; rfl) (by rintro v s ⟨_, h, G, T, rfl⟩; exact ⟨⟨_, h⟩, rfl⟩)
 rcases hcs.call rfl with ⟨v, s', ⟨u, s1, ⟨z, rfl, _⟩, rfl, rfl⟩ | ⟨x, s1, ⟨z, e, _⟩, rfl, rfl⟩, hc⟩ | ⟨_, _, h, _⟩
 ·simp only [pf66, ↓fh, wall, simprocAttr, hc]
  rw [z]
 ·have : x = p.check := by simpa [wr] using e
  subst this
  simp only [pf66, ↓fh, wall, simprocAttr, hc]
 ·exact h.elim
end Go.Proofs.Eng
namespace Go.Proofs.Eng
open Go Go.Proofs
theorem yn {k i : Int} {n : ByteArray} {s : List Int} {l : Nat} (h : fmB k i n s l = true) :
  0 <= k /\ k < 12 /\ 0 <= i /\ s.length <= 32 /\ l <= 4096 /\ (∀ x ∈ s, 0 <= x /\ x <= 64) /\
  (k = 0 -> l = 0 /\ s = [] /\ n.size = 0) /\ (k = 4 -> l = s.length + 1) /\ ((k = 2 \/ k = 7 \/ k = 8) -> l = 2) /\ ((k = 1 \/ k = 9 \/ k = 10) -> l = 1) /\ (k = 3 -> i < 32) := by
 simp only [fmB, dw, decide_eq_true_eq] at h
 obtain ⟨⟨⟨⟨⟨h0, h1⟩, h2⟩, h3⟩, h4⟩, h5⟩ := h
 unfold Et at h5
 by_cases k3 : k = 3
 ·rw [if_pos k3] at h5
  simp [Jg] at h5
  obtain ⟨⟨rfl, h6⟩, h7⟩ := h5
  refine ⟨h0, h1, h2, by simp, by omega, by simp, ?_, ?_, ?_, ?_, ?_⟩ <;> (intro; omega)
 ·rw [if_neg k3] at h5
  by_cases k4 : k = 4
  ·rw [if_pos k4] at h5
   simp only [Ho, dw, decide_eq_true_eq, beq_iff_eq, Bool.not_eq_true', List.any_eq_false] at h5
   obtain ⟨⟨h6, h7⟩, h8⟩ := h5
   refine ⟨h0, h1, h2, h6, by omega, ?_, ?_, ?_, ?_, ?_, ?_⟩
   ·intro x hx
    have := h8 x hx
    simp [nz] at this
    omega
   all_goals (intro; omega)
  ·rw [if_neg k4] at h5
   simp [Hj] at h5
   obtain ⟨h6, rfl⟩ := h5
   have hk : kn k = (if k = 1 \/ k = 9 \/ k = 10 then 1 else if k = 2 \/ k = 7 \/ k = 8 then 2 else 0) := rfl
   have hl : l <= 4096 := by
    split at hk
    ·omega
    ·split at hk <;> omega
   refine ⟨h0, h1, h2, by simp, hl, by simp, ?_, ?_, ?_, ?_, ?_⟩
   ·intro h
    refine ⟨?_, rfl, ?_⟩
    ·rw [hk, if_neg (by omega), if_neg (by omega)] at h6; omega
    ·subst h; simpa [qi] using h3
   ·intro; omega
   ·intro h; rw [hk, if_neg (by omega), if_pos h] at h6; omega
   ·intro h; rw [hk, if_pos h] at h6; omega
   ·intro; omega
mutual
def Ex.wf : Ex -> Prop
 | .mk k i n s kids => fmB k i n s kids.length = true /\ wfL kids
def wfL : List Ex -> Prop
 | [] => True
 | e :: es => e.wf /\ wfL es
end
mutual
def Ex.dep : Ex -> Nat
 | .mk _ _ _ _ kids => Ri kids + 1
def Ri : List Ex -> Nat
 | [] => 0
 | e :: es => max e.dep (Ri es)
end
theorem a0d {l : List Ex} {e : Ex} (h : e ∈ l) : e.dep <= Ri l := by
 induction l with
 | nil => simp at h
 | cons x l ih =>
  simp only [Ri]
  rcases List.mem_cons.1 h with rfl | h
  ·omega
  ·have := ih h; omega
end Go.Proofs.Eng
