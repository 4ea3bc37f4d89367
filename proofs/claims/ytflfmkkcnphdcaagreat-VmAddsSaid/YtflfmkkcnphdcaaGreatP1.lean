/- P1: what functions of the program return. No conditions beyond those in the theorems. -/
import Derived.Test.YtflfmkkcnphdcaaGreatPf57
set_option linter.all false
set_option linter.deprecated false
set_option linter.unnecessarySimpa false
set_option linter.unusedVariables false
set_option linter.unusedSimpArgs false
set_option linter.defProp false
namespace Go.Proofs.Eng
open Go Go.Proofs
abbrev w64 (n : Int) : Int := IntKind.i64.wrap n
abbrev B62 : Int := 4611686018427387904
inductive Ex where
 | mk (k i : Int) (n : ByteArray) (szs : List Int) (kids : List Ex)
def a38 (i : Int) (n : ByteArray) : Prop := m7 i /\ n.size <= jh
mutual
def Ex.Is : Ex -> AV -> Prop
 | .mk k i n szs kids, a => ∃ t1 t2 kas, a = .agg [.int k, .int i, .str n, .sl (ints szs) t1, .sl kas t2] /\ t1.pure = true /\ t2.pure = true /\ a38 i n /\ szs.length <= jh /\ kas.length <= jh /\ Ex.IsL kids kas
def Ex.IsL : List Ex -> List AV -> Prop
 | [], [] => True
 | e :: es, a :: al => e.Is a /\ Ex.IsL es al
 | _, _ => False
end
theorem Ex.ind {P : Ex -> Prop} (h : ∀ k i n s kids, (∀ x ∈ kids, P x) -> P (.mk k i n s kids)) (e : Ex) : P e := by
 have key : ∀ n e, SizeOf.sizeOf e <= n -> P e := by
  intro n
  induction n with
  | zero => intro e he; cases e; simp at he
  | succ n ih =>
   intro e he
   cases e with
   | mk k i nm s kids =>
    refine h k i nm s kids λ x hx => ih x ?_
    have := List.sizeOf_lt_of_mem hx
    simp at he
    omega
 exact key _ e (di _)
theorem I3 : ∀ {l : List Ex} {al : List AV}, Ex.IsL l al ↔ LIs Ex.Is l al
 | [], [] => by simp [Ex.IsL, LIs]
 | e :: es, a :: al => by simp only [Ex.IsL, LIs, I3 (l := es)]
 | [], _ :: _ => by simp [Ex.IsL, LIs]
 | _ :: _, [] => by simp [Ex.IsL, LIs]
theorem Ex.Is.opn {k i : Int} {n : ByteArray} {s : List Int} {kids : List Ex} {a : AV} (h : (Ex.mk k i n s kids).Is a) : ∃ t1 t2 kas, a = .agg [.int k, .int i, .str n, .sl (ints s) t1, .sl kas t2] /\ t1.pure = true /\ t2.pure = true /\ a38 i n /\ s.length <= jh /\ kas.length <= jh /\ LIs Ex.Is kids kas := by
 simp only [Ex.Is, I3] at h; exact h
theorem Ex.Is.mk {k i : Int} {n : ByteArray} {s : List Int} {kids : List Ex} {t1 t2 : Tl} {kas : List AV} (h1 : t1.pure = true) (h2 : t2.pure = true) (h3 : a38 i n) (h4 : s.length <= jh) (h5 : kas.length <= jh) (h6 : LIs Ex.Is kids kas) : (Ex.mk k i n s kids).Is (.agg [.int k, .int i, .str n, .sl (ints s) t1, .sl kas t2]) := by
 simp only [Ex.Is, I3]; exact ⟨t1, t2, kas, rfl, h1, h2, h3, h4, h5, h6⟩
theorem qe (e : Ex) : ∀ {a}, e.Is a -> gz a = true := by
 induction e using Ex.ind with
 | h k i n s kids ih =>
  intro a h
  obtain ⟨t1, t2, kas, rfl, h1, h2, _, h3, h4, h5⟩ := h.opn
  have := LIs.pure (R := λ x a => gz a = true) (λ _ _ h => h) (h5.mono λ x hx a h => ih x hx h)
  simp [lu, mg, lg, ga, gu, km, h1, h2, this]
theorem mz : Mg Ex.Is 5 := ⟨λ {x a} h => by
  cases x
  obtain ⟨t1, t2, kas, rfl, _⟩ := h.opn
  exact ⟨_, rfl, rfl, rfl⟩, λ {x a} h => qe x h⟩
def Ex.k : Ex -> Int | .mk k _ _ _ _ => k
def Ex.i : Ex -> Int | .mk _ i _ _ _ => i
def Ex.n : Ex -> ByteArray | .mk _ _ n _ _ => n
def Ex.s : Ex -> List Int | .mk _ _ _ s _ => s
def Ex.kids : Ex -> List Ex | .mk _ _ _ _ l => l
def Ex.zero : Ex := .mk 0 0 ⟨#[]⟩ [] []
mutual
def Ex.a8b : Ex -> Prop
 | .mk _ _ _ _ kids => kids.length <= wi /\ a2x kids
def a2x : List Ex -> Prop
 | [] => True
 | e :: es => e.a8b /\ a2x es
end
end Go.Proofs.Eng
namespace Go.Proofs.Eng
open Go Go.Proofs
set_option maxRecDepth 100000
def under (k : Int) (s : List Int) (j : Nat) : Int := if k = 1 \/ k = 7 /\ j = 1 then 1 else if k = 4 /\ 1 <= j /\ j <= s.length then (if s.getD (j - 1) 0 > 0 then s.getD (j - 1) 0 else 0) else 0
theorem R3 (k i : Int) (n : ByteArray) (s : List Int) (t1 t2 : Tl) (kas : List AV) (j : Nat) (hj : j <= jh) (hs : s.length <= jh) : Out md pfs 171 [.agg [.int k, .int i, .str n, .sl (ints s) t1, .sl kas t2], .int j] (· = .int (under k s j)) λ _ => False := by
 refine iy pf171_is (dh rfl) ?_
 cases h1 : (k == 1)
 ·cases h7 : (k == 7)
  ·cases h4 : (k == 4)
   ·simp only [pf171, ↓fj, wall, simprocAttr, h1, h7, h4]
    simp at h1 h7 h4
    simp [under, h1, h7, h4]
   ·cases hj1 : decide ((j : Int) >= 1)
    ·simp only [pf171, ↓fj, wall, simprocAttr, h1, h7, h4, hj1]
     simp at h1 h7 hj1
     simp [under, h1, h7, show ¬ 1 <= j by omega]
    ·cases hj2 : decide ((j : Int) <= ((ints s).length : Int))
     ·simp only [pf171, ↓fj, wall, simprocAttr, h1, h7, h4, hj1, hj2]
      simp [ig] at h1 h7 hj1 hj2
      simp [under, h1, h7, show ¬ j <= s.length by omega]
     ·have hw : IntKind.i64.wrap ((j : Int) - 1) = ((j - 1 : Nat) : Int) := by
       simp at hj1
       rw [je (by unfold m7; unfold jh at hj; omega)]; omega
      simp [ig] at hj1 hj2
      obtain ⟨x, g1, g2, g3⟩ := Bu (l := s) (i := j - 1) (by omega)
      have hj1' : decide ((j : Int) >= 1) = true := by simp; omega
      have hj2' : decide ((j : Int) <= ((ints s).length : Int)) = true := by simp [ig]; omega
      simp only [pf171, ↓fj, wall, simprocAttr, h1, h7, h4, hj1', hj2', hw, g3, mn, fc, gt_iff_lt]
      simp at h1 h7 h4
      have : s.getD (j - 1) 0 = x := by simp [List.getD, g1]
      simp only [under, h1, h7, h4, this, hj1, hj2]
      simp [show 1 <= j by omega]
  ·cases hj1 : ((j : Int) == 1)
   ·simp at h7
    subst h7
    simp only [pf171, ↓fj, wall, simprocAttr, h1, hj1]
    simp at hj1
    simp [under, show ¬ j = 1 by omega]
   ·simp only [pf171, ↓fj, wall, simprocAttr, h1, h7, hj1]
    simp at h7 hj1
    simp [under, h7, show j = 1 by omega]
 ·simp only [pf171, ↓fj, wall, simprocAttr, h1]
  simp at h1
  simp [under, h1]
end Go.Proofs.Eng
namespace Go.Proofs.Eng
open Go Go.Proofs
set_option maxRecDepth 100000
theorem Mf {α : Type} {R : α -> AV -> Prop} (hR : Mg R 6) (f : FuncId) (caps : List AV) (hf : md f = .pure) (hcaps : gg caps = true) (p : α -> Bool) {l : List α} {al : List AV} {t : Tl} (h : LIs R l al) (hl : al.length <= jh) (hg : ∀ x ∈ l, ∀ a, R x a -> Out md pfs f (a :: caps) (· = .bool (p x)) λ _ => False) :
  Out md pfs 156 [.sl al t, .fn f caps] (λ v => ∃ r : Int, v = .int r /\ ((r = -1 /\ l.any p = false) \/ ∃ (j : Nat) (x : α), r = j /\ l[j]? = some x /\ p x = true /\ (l.take j).any p = false)) λ _ => False := by
 refine iy pf156_is (dh rfl) ?_
 simp only [pf156, ↓fj, wall, simprocAttr]
 refine j6 (λ j => al.length - j) (λ j E H T => E 0 = .sl al t /\ E 1 = .fn f caps /\ E 7 = .int al.length /\ E 8 = .int j /\ j <= al.length /\ (l.take j).any p = false) ?_ 0 ?_
 ·rintro j E H T ⟨e0, e1, e7, e8, hj, hn⟩
  rcases dj j al.length with hlt | hge
  ·obtain ⟨x, c, d0, d1, d3, d4, d5, d6, d7, d8⟩ := h.get hR hlt
   have hdec : decide ((j : Int) < al.length) = true := by simpa using hlt
   have hall := h.all hR
   obtain ⟨v, rfl, hc⟩ := (hg x d3 _ d8).call hf (by simp [ga, hR.pure d8, hcaps])
   cases hp : p x
   ·simp only [↓fj, wall, simprocAttr, e0, e1, e7, e8, hdec, d4, d5, d6, hall, hc, hp]
    exact jm ⟨j + 1, by omega, e0, e1, e7, iw (by omega), by omega, by rw [bj, d0]; simp [List.any_append, hn, hp]⟩
   ·simp only [↓fj, wall, simprocAttr, e0, e1, e7, e8, hdec, d4, d5, d6, hall, hc, hp]
    exact ⟨_, rfl, .inr ⟨j, x, rfl, d0, hp, hn⟩⟩
  ·have hdec : decide ((j : Int) < al.length) = false := by simpa using hge
   simp only [↓fj, wall, simprocAttr, e0, e1, e7, e8, hdec]
   rw [au (by rw [<- h.len]; omega)] at hn
   exact ⟨_, rfl, .inl ⟨rfl, hn⟩⟩
 ·exact ⟨rfl, rfl, rfl, rfl, dk _, rfl⟩
theorem Hq (f : FuncId) (hf : md f = .pure) (p : Int -> Bool) {l : List Int} {t : Tl} (hl : l.length <= jh) (hg : ∀ x ∈ l, Out md pfs f [.int x] (· = .bool (p x)) λ _ => False) :
  Out md pfs 161 [.sl (ints l) t, .fn f []] (λ v => ∃ r : Int, v = .int r /\ ((r = -1 /\ l.any p = false) \/ ∃ (j : Nat) (x : Int), r = j /\ l[j]? = some x /\ p x = true /\ (l.take j).any p = false)) λ _ => False := by
 refine iy pf161_is (dh rfl) ?_
 simp only [pf161, ↓fj, wall, simprocAttr]
 refine j6 (λ j => l.length - j) (λ j E H T => E 0 = .sl (ints l) t /\ E 1 = .fn f [] /\ E 7 = .int l.length /\ E 8 = .int j /\ j <= l.length /\ (l.take j).any p = false) ?_ 0 ?_
 ·rintro j E H T ⟨e0, e1, e7, e8, hj, hn⟩
  rcases dj j l.length with hlt | hge
  ·obtain ⟨x, d0, d1, d4⟩ := Bu hlt
   have hdec : decide ((j : Int) < l.length) = true := by simpa using hlt
   obtain ⟨v, rfl, hc⟩ := (hg x (aq d0)).call hf (by simp [ga, gu, mg])
   cases hp : p x
   ·simp only [↓fj, wall, simprocAttr, e0, e1, e7, e8, hdec, d4, mn, ig, hc, hp]
    exact jm ⟨j + 1, by omega, e0, e1, e7, iw (by omega), by omega, by rw [bj, d0]; simp [List.any_append, hn, hp]⟩
   ·simp only [↓fj, wall, simprocAttr, e0, e1, e7, e8, hdec, d4, mn, ig, hc, hp]
    exact ⟨_, rfl, .inr ⟨j, x, rfl, d0, hp, hn⟩⟩
  ·have hdec : decide ((j : Int) < l.length) = false := by simpa using hge
   simp only [↓fj, wall, simprocAttr, e0, e1, e7, e8, hdec, ig]
   rw [au (by omega)] at hn
   exact ⟨_, rfl, .inl ⟨rfl, hn⟩⟩
 ·exact ⟨rfl, rfl, by rw [<- ig l]; rfl, rfl, dk _, rfl⟩
theorem Dn {p : Int -> Bool} (f : FuncId) (hf : md f = .pure) {l : List Int} {t : Tl} (ht : t.pure = true) (hl : l.length <= jh) (hg : ∀ x ∈ l, Out md pfs f [.int x] (· = .bool (p x)) λ _ => False) : Out md pfs 132 [.sl (ints l) t, .fn f []] (· = .bool (l.any p)) λ _ => False := by
 refine iy pf132_is (dh rfl) ?_
 obtain ⟨v, ⟨r, rfl, hr⟩, hc⟩ := (Hq f hf p (t := t) hl hg).call rfl (by simp [ga, gu, lg, yo, ht, km])
 have hd : decide (r >= 0) = l.any p := by
  rcases hr with ⟨rfl, h2⟩ | ⟨j, x, rfl, h2, h3, _⟩
  ·rw [h2]; rfl
  ·have : l.any p = true := ck.2 ⟨x, aq h2, h3⟩
   rw [this]; simp
 simp only [pf132, ↓fj, wall, simprocAttr, hc, hd]
mutual
def Ex.val : Ex -> Bool
 | .mk k _ _ _ kids => if k = 1 \/ k = 6 then true else if k = 3 \/ k = 8 then a7t kids else false
def a7t : List Ex -> Bool
 | [] => true
 | e :: es => e.val && a7t es
end
mutual
def Ex.size : Ex -> Int
 | .mk _ _ _ _ kids => Ex.Bc 1 kids
def Ex.Bc : Int -> List Ex -> Int
 | acc, [] => acc
 | acc, e :: es => Ex.Bc (IntKind.i64.wrap (acc + e.size)) es
end
mutual
def Ex.deep : Ex -> Int
 | .mk _ _ _ _ kids => IntKind.i64.wrap (Ex.uq 0 kids + 1)
def Ex.uq : Int -> List Ex -> Int
 | acc, [] => acc
 | acc, e :: es => Ex.uq (if e.deep > acc then e.deep else acc) es
end
end Go.Proofs.Eng
namespace Go.Proofs.Eng
open Go Go.Proofs
set_option maxRecDepth 100000
def Kv (m : Int) (s : List Int) (l : Nat) : Bool := (l : Int) == m && s.length == 0
def Pw (i : Int) (s : List Int) (l : Nat) : Bool := s.length == 0 && decide (i < 32) && decide ((l : Int) <= 4096)
def Ds (n : Int) : Bool := decide (n < 0) || decide (n > 64)
def Ko (s : List Int) (l : Nat) : Bool := decide (s.length <= 32) && l == s.length + 1 && !s.any Ds
def tn (k : Int) : Bool := k == 3 || k == 5
section
variable {k i : Int} {n : ByteArray} {s : List Int} {t1 t2 : Tl} {kas : List AV}
theorem Gn (k : Int) : Out md pfs 130 [.int k] (· = .bool (tn k)) λ _ => False := by
 refine iy pf130_is (dh rfl) ?_
 cases h3 : (k == 3) <;> cases h5 : (k == 5)
 all_goals
  simp only [pf130, ↓fj, wall, simprocAttr, h3, h5]
  simp [tn, h3, h5]
theorem O0 (m : Int) : Out md pfs 127 [.agg [.int k, .int i, .str n, .sl (ints s) t1, .sl kas t2], .ip [.int m] 0] (· = .bool (Kv m s kas.length)) λ _ => False := by
 refine iy pf127_is (dh rfl) ?_
 have h0 : (((ints s).length : Int) == 0) = (s.length == 0) := by rw [ig]; cases s.length <;> rfl
 cases h3 : ((kas.length : Int) == m) <;> cases h5 : (s.length == 0)
 all_goals
  simp only [pf127, ↓fj, wall, simprocAttr, h3, h0, h5]
  simp [Kv, h3, h5]
theorem Nn : Out md pfs 128 [.agg [.int k, .int i, .str n, .sl (ints s) t1, .sl kas t2]] (· = .bool (Pw i s kas.length)) λ _ => False := by
 refine iy pf128_is (dh rfl) ?_
 have h0 : (((ints s).length : Int) == 0) = (s.length == 0) := by rw [ig]; cases s.length <;> rfl
 cases h3 : decide (i < 32) <;> cases h4 : decide ((kas.length : Int) <= 4096) <;> cases h5 : (s.length == 0)
 all_goals
  simp only [pf128, ↓fj, wall, simprocAttr, h3, h4, h0, h5]
  simp only [Pw, h3, h4, h5]
  rfl
theorem Jf (x : Int) : Out md pfs 160 [.int x] (· = .bool (Ds x)) λ _ => False := by
 refine iy pf160_is (dh rfl) ?_
 cases h3 : decide (x < 0) <;> cases h4 : decide (x > 64)
 all_goals
  simp only [pf160, ↓fj, wall, simprocAttr, h3, h4]
  simp only [Ds, h3, h4]
  rfl
theorem Nb (h1 : t1.pure = true) (hs : s.length <= jh) : Out md pfs 129 [.agg [.int k, .int i, .str n, .sl (ints s) t1, .sl kas t2]] (· = .bool (Ko s kas.length)) λ _ => False := by
 refine iy pf129_is (dh rfl) ?_
 have h0 : decide (((ints s).length : Int) <= 32) = decide (s.length <= 32) := by rw [ig, Bool.eq_iff_iff]; simp; omega
 have hw : decide (s.length <= 32) = true -> ((kas.length : Int) == IntKind.i64.wrap (((ints s).length : Int) + 1)) = (kas.length == s.length + 1) := by
  intro h
  rw [ig, Hr (by simp at h; unfold jh; omega), Bool.eq_iff_iff]; simp; omega
 obtain ⟨v, rfl, hc⟩ := (Dn 160 rfl (t := t1) h1 hs (λ x _ => Jf x)).call rfl (by simp [ga, gu, lg, yo, h1, km])
 cases h3 : decide (s.length <= 32)
 ·simp only [pf129, ↓fj, wall, simprocAttr, h0, h3]
  simp only [Ko, h3]
  rfl
 ·have hw := hw h3
  cases h4 : (kas.length == s.length + 1)
  all_goals
   simp only [pf129, ↓fj, wall, simprocAttr, h0, h3, hw, h4, hc]
   simp only [Ko, h3, h4]
   rfl
end
def kf (m : Int) : AV := .fn 127 [.ip [.int m] 0]
def vp : List AV := [kf 0, kf 1, kf 2, .fn 128 [], .fn 129 [], kf 0, kf 0, kf 2, kf 2, kf 1, kf 1, kf 0]
theorem A8 (m : Int) : Out md pfs 126 [.int m] (· = kf m) λ _ => False := by
 refine iy pf126_is (dh rfl) ?_
 simp only [pf126, ↓fj, wall, simprocAttr]
 rfl
theorem Mv : Out md pfs 83 [] (· = .agg vp) λ _ => False := by
 refine iy pf83_is (dh rfl) ?_
 obtain ⟨v, rfl, c0⟩ := (A8 0).call rfl (by simp [ga, gu, mg])
 obtain ⟨v, rfl, c1⟩ := (A8 1).call rfl (by simp [ga, gu, mg])
 obtain ⟨v, rfl, c2⟩ := (A8 2).call rfl (by simp [ga, gu, mg])
 simp only [pf83, ↓fj, wall, simprocAttr, c0, c1, c2, kf]
 rfl
end Go.Proofs.Eng
namespace Go.Proofs.Eng
open Go Go.Proofs
set_option maxRecDepth 100000
def kn (k : Int) : Int := if k = 1 \/ k = 9 \/ k = 10 then 1 else if k = 2 \/ k = 7 \/ k = 8 then 2 else 0
def K2 (k i : Int) (s : List Int) (l : Nat) : Bool := if k = 3 then Pw i s l else if k = 4 then Ko s l else Kv (kn k) s l
def fmB (k i : Int) (n : ByteArray) (s : List Int) (l : Nat) : Bool := decide (0 <= k) && decide (k < 12) && decide (0 <= i) && (n.size == 0 || tn k) && (i == 0 || k == 0 || k == 3) && K2 k i s l
def Ex.fm : Ex -> Bool
 | .mk k i n s kids => fmB k i n s kids.length
def K4 (k : Int) : AV := if k = 3 then .fn 128 [] else if k = 4 then .fn 129 [] else kf (kn k)
theorem a4a {k : Int} (h0 : 0 <= k) (h1 : k < 12) : ∃ rest, vp.drop k.toNat = K4 k :: rest := by
 have : k = 0 \/ k = 1 \/ k = 2 \/ k = 3 \/ k = 4 \/ k = 5 \/ k = 6 \/ k = 7 \/ k = 8 \/ k = 9 \/ k = 10 \/ k = 11 := by omega
 rcases this with rfl | rfl | rfl | rfl | rfl | rfl | rfl | rfl | rfl | rfl | rfl | rfl <;> exact ⟨_, rfl⟩
theorem My {e : Ex} {a : AV} (h : e.Is a) : Out md pfs 85 [.agg vp, a] (· = .bool e.fm) λ _ => False := by
 obtain ⟨k, i, n, s, kids⟩ := e
 obtain ⟨t1, t2, kas, rfl, h1, h2, h3, h4, h5, h6⟩ := h.opn
 refine iy pf85_is (dh rfl) ?_
 have hlen := h6.len
 have hp := qe _ h
 have ez : fmB k i n s kids.length = (Ex.mk k i n s kids).fm := rfl
 obtain ⟨v, rfl, cn⟩ := (Gn k).call rfl (by simp [ga, gu, mg])
 cases hk0 : decide (k < 0)
 ·cases hk1 : decide (k >= 12)
  ·have hk0' : 0 <= k := by simpa using hk0
   have hk1' : k < 12 := by simpa using hk1
   cases hi : decide (i < 0)
   ·have hi' : 0 <= i := by simpa using hi
    obtain ⟨rest, hT⟩ := a4a hk0' hk1'
    have hcall : ∃ f caps, K4 k = .fn f caps /\ ∀ pm s0 K KP, CW (run md pfs) md pm s0 f (.agg [.int k, .int i, .str n, .sl (ints s) t1, .sl kas t2] :: caps) K KP () = K (.bool (K2 k i s kas.length)) s0 := by
     by_cases k3 : k = 3
     ·obtain ⟨v, rfl, hc⟩ := (Nn (k := k) (i := i) (n := n) (s := s) (t1 := t1) (t2 := t2) (kas := kas)).call rfl (by simp [ga, gu, hp])
      exact ⟨128, [], by simp [K4, k3], by simpa [K2, k3] using hc⟩
     ·by_cases k4 : k = 4
      ·obtain ⟨v, rfl, hc⟩ := (Nb (k := k) (i := i) (n := n) (s := s) (t1 := t1) (t2 := t2) (kas := kas) h1 h4).call rfl (by simp [ga, gu, hp])
       exact ⟨129, [], by simp [K4, k4], by simpa [K2, k4] using hc⟩
      ·obtain ⟨v, rfl, hc⟩ := (O0 (k := k) (i := i) (n := n) (s := s) (t1 := t1) (t2 := t2) (kas := kas) (kn k)).call rfl (by simp [ga, gu, mg, Oj, hp])
       exact ⟨127, [.ip [.int (kn k)] 0], by simp [K4, k3, k4, kf], by simpa [K2, k3, k4] using hc⟩
    obtain ⟨f, caps, hfn, hc⟩ := hcall
    rw [hfn] at hT
    have hres : fmB k i n s kids.length = ((n.size == 0 || tn k) && (i == 0 || k == 0 || k == 3) && K2 k i s kids.length) := by
     simp only [fmB]
     rw [decide_eq_true hk0', decide_eq_true hk1', decide_eq_true hi']
     simp
    rw [<- hlen] at ez hres
    cases hn0 : (n.size == 0) <;> cases hn2 : tn k
    ·simp only [pf85, ↓fj, wall, simprocAttr, hk0, hk1, hi, hn0, cn, hn2]
     rw [<- ez, hres, hn0, hn2]; rfl
    all_goals
     cases x1 : (i == 0) <;> cases x2 : (k == 0) <;> cases x3 : (k == 3)
     all_goals
      simp only [pf85, ↓fj, wall, simprocAttr, hk0, hk1, hi, hn0, hn2, cn, x1, x2, x3, hk0', hk1', Nat.mul_one, hT, hc]
      rw [<- ez, hres, hn0, hn2, x1, x2, x3]
      simp
      try omega
   ·simp only [pf85, ↓fj, wall, simprocAttr, hk0, hk1, hi]
    simp at hi
    rw [<- ez]; simp [fmB, show ¬ 0 <= i by omega]
  ·simp only [pf85, ↓fj, wall, simprocAttr, hk0, hk1]
   simp at hk1
   rw [<- ez]; simp [fmB, show ¬ k < 12 by omega]
 ·simp only [pf85, ↓fj, wall, simprocAttr, hk0]
  simp at hk0
  rw [<- ez]; simp [fmB, show ¬ 0 <= k by omega]
end Go.Proofs.Eng
namespace Go.Proofs.Eng
open Go Go.Proofs
set_option maxRecDepth 100000
abbrev AV.u8 (c : Int) : AV := .v (.int .u8 c)
def Zd (c : Int) : Bool := decide (97 <= c /\ c <= 122) || decide (65 <= c /\ c <= 90) || decide (c = 95)
theorem a36 (c : Int) : Out md pfs 131 [.u8 c] (· = .bool (Zd c)) λ _ => False := by
 refine iy pf131_is (dh rfl) ?_
 cases h1 : decide (c >= 97) <;> cases h2 : decide (c <= 122) <;> cases h3 : decide (c >= 65) <;> cases h4 : decide (c <= 90) <;> cases h5 : c == 95
 all_goals
  simp only [pf131, ↓fj, wall, simprocAttr, h1, h2, h3, h4, h5]
  simp only [decide_eq_false_iff_not, decide_eq_true_eq, beq_iff_eq, beq_eq_false_iff_ne] at h1 h2 h3 h4 h5
  refine G4 ?_
  simp [Zd]
  omega
def sk : List UInt8 -> Bool -> Bool
 | [], b => !b
 | c :: cs, b => if Zd c.toNat then sk cs false else if b then false else if (c.toNat : Int) = 46 then sk cs true else if ((c.toNat : Int) < 48 \/ 57 < (c.toNat : Int)) /\ (c.toNat : Int) ≠ 39 then false else sk cs false
def isName (s : ByteArray) : Bool := sk s.toList true && decide (s.size <= 64)
theorem Az (s : ByteArray) (hs : s.size <= jh) : Out md pfs 86 [.str s] (· = .bool (isName s)) λ _ => False := by
 refine iy pf86_is (dh rfl) ?_
 simp only [pf86, ↓fj, wall, simprocAttr]
 refine j6 (λ j => s.size - j) (λ j E H T => ∃ b, E 0 = .str s /\ E 3 = .bool b /\ E 7 = .int s.size /\ E 8 = .int j /\ j <= s.size /\ sk (s.toList.drop j) b = sk s.toList true) ?_ 0 ?_
 ·rintro j E H T ⟨b, h0, h3, h7, h8, hj, hn⟩
  rcases dj j s.size with hlt | hge
  ·have hd : decide ((j : Int) < s.size) = true := by simpa using hlt
   have hx : j < s.toList.length := by rw [Aq]; exact hlt
   have hg : s.toList[j]? = some s.toList[j] := by simp [hx]
   have hc := (a36 (s.toList[j].toNat)).call rfl (by simp [ga, gu, mg])
   rw [bx hx] at hn
   generalize s.toList[j] = c at hn hg hc
   obtain ⟨v, rfl, hc⟩ := hc
   cases hl : Zd c.toNat
   ·cases b
    ·cases h46 : ((c.toNat : Int) == 46)
     ·cases h48 : decide ((c.toNat : Int) < 48) <;> cases h57 : decide ((c.toNat : Int) > 57) <;> cases h39 : ((c.toNat : Int) != 39)
      all_goals
       simp only [↓fj, wall, simprocAttr, h0, h3, h7, h8, hd, hg, fc, hc, hl, h46, h48, h57, h39]
       simp only [decide_eq_false_iff_not, decide_eq_true_eq, beq_iff_eq, beq_eq_false_iff_ne, bne_iff_ne, bne_eq_false_iff_eq] at h46 h48 h57 h39
       first
        | exact jm ⟨j + 1, by omega, false, h0, h3, h7, iw (by omega), by omega, by rw [<- hn, sk, hl, if_neg (by decide), if_neg (by decide), if_neg h46, if_neg (by omega)]⟩
        | exact G4 (by rw [isName, <- hn, sk, hl, if_neg (by decide), if_neg (by decide), if_neg h46, if_pos (by omega)]; rfl)
     ·simp only [↓fj, wall, simprocAttr, h0, h3, h7, h8, hd, hg, fc, hc, hl, h46]
      exact jm ⟨j + 1, by omega, true, h0, rfl, h7, iw (by omega), by omega, by rw [<- hn, sk, hl, if_neg (by decide), if_neg (by decide), if_pos (by simpa using h46)]⟩
    ·simp only [↓fj, wall, simprocAttr, h0, h3, h7, h8, hd, hg, fc, hc, hl]
     exact G4 (by rw [isName, <- hn, sk, hl]; rfl)
   ·simp only [↓fj, wall, simprocAttr, h0, h3, h7, h8, hd, hg, fc, hc, hl]
    exact jm ⟨j + 1, by omega, false, h0, rfl, h7, iw (by omega), by omega, by rw [<- hn, sk]; simp [hl]⟩
  ·have hd : decide ((j : Int) < s.size) = false := by simpa using hge
   rw [bt (by rw [Aq]; omega)] at hn
   cases b <;> cases h64 : decide ((s.size : Int) <= 64)
   all_goals
    simp only [↓fj, wall, simprocAttr, h0, h3, h7, h8, hd, h64]
    refine G4 ?_
    rw [isName, <- hn, sk]
    simp at h64 ⊢
    try omega
 ·exact ⟨true, rfl, rfl, rfl, rfl, dk _, rfl⟩
end Go.Proofs.Eng
namespace Go.Proofs.Eng
open Go Go.Proofs
set_option maxRecDepth 100000
abbrev Gl := ByteArray × Ex
def Ww (g : Gl) (a : AV) : Prop := ∃ c, a = .agg (.str g.1 :: c) /\ g.1.size <= jh /\ g.2.Is (.agg c)
theorem Uh : Mg Ww 6 := ⟨λ {x a} h => by
  obtain ⟨c, rfl, _, h⟩ := h
  obtain ⟨c', e, hl, ho⟩ := mz.cells h
  cases e
  exact ⟨_, rfl, by simp [hl], by simpa [Hy] using ho⟩, λ {x a} h => by
  obtain ⟨c, rfl, _, h⟩ := h
  have := qe _ h
  rw [lu] at this
  simp [lu, ga, mg, this]⟩
structure Pr where
 gs : List Gl
 main : Ex
def Pr.Is (p : Pr) (a : AV) : Prop := ∃ gas tg c, a = .agg (.sl gas tg :: c) /\ tg.pure = true /\ gas.length <= jh /\ LIs Ww p.gs gas /\ p.main.Is (.agg c) /\ c.length = 5 /\ c.take 5 = c /\ c.all gv = true /\ gg c = true /\ gg gas = true /\ (gas.all λ x => x.cells.length == 6) = true
theorem Wq {p : Pr} {a : AV} (h : p.Is a) : gz a = true := by
 obtain ⟨gas, tg, c, rfl, h1, h2, h3, h4, h5, h6, h7, h8, h9, _⟩ := h
 simp [lu, ga, lg, h1, h8, h9]
def A1 : List Gl -> ByteArray -> Option Ex
 | [], _ => none
 | g :: gs, n => if g.1 = n then some g.2 else A1 gs n
mutual
def Ex.err (gl : ByteArray -> Bool) : Int -> Ex -> Int
 | v, .mk k i n s kids => if fmB k i n s kids.length = false then 3 else if tn k = true /\ isName n = false then 29 else if k = 0 /\ decide (i >= v) = true then 24 else if k = 5 /\ gl n = false then 9 else Af gl k s v 0 kids
def Af (gl : ByteArray -> Bool) (k : Int) (s : List Int) (v : Int) : Nat -> List Ex -> Int
 | _, [] => 0
 | j, e :: es => if Ex.err gl (w64 (v + under k s j)) e = 0 then Af gl k s v (j + 1) es else Ex.err gl (w64 (v + under k s j)) e
end
abbrev Pr.gl (p : Pr) (n : ByteArray) : Bool := (A1 p.gs n).isSome
end Go.Proofs.Eng
namespace Go.Proofs.Eng
open Go Go.Proofs
set_option maxRecDepth 100000
def Ex.whole (gl : ByteArray -> Bool) (e : Ex) : Int := if (e.err gl 0 != 0) = true then e.err gl 0 else if decide (e.size > 4096) = true then 5 else if decide (e.deep > 200) = true then 7 else 0
def Pr.go (p : Pr) : List Gl -> List Gl -> Int
 | _, [] => p.main.whole p.gl
 | prev, g :: gs => if isName g.1 = false then 29 else if (prev.any λ x => decide (x.1 = g.1)) = true then 8 else if (g.2.whole p.gl != 0) = true then g.2.whole p.gl else p.go (prev ++ [g]) gs
def Pr.check (p : Pr) : Int := if decide ((p.gs.length : Int) > 1000) = true then 6 else p.go [] p.gs
end Go.Proofs.Eng
namespace Go.Proofs.Eng
open Go Go.Proofs
set_option maxRecDepth 100000
def wr (c : Int) : AV := .iface 182 (.agg [.int c])
theorem pz (c : Int) : gz (wr c) = true := by simp [wr, Ax, lu, ga, gu, mg]
theorem Tw (c : Int) : Out md pfs 80 [.bool true, .int c] (· = .tup []) λ _ => False := by
 refine iy pf80_is (dh rfl) ?_
 simp only [pf80, ↓fj, wall, simprocAttr]
theorem Ta (c : Int) : Out md pfs 80 [.bool false, .int c] (λ _ => False) (· = wr c) := by
 refine iy pf80_is (dh rfl) ?_
 simp only [pf80, ↓fj, wall, simprocAttr]
 rfl
theorem yn (c : Int) (pm : Bool) (s : ASt) (K KP : AV -> ASt -> Prop) : CW (run md pfs) md pm s 80 [.bool true, .int c] K KP () = K (.tup []) s := by
 obtain ⟨_, rfl, h⟩ := (Tw c).call rfl (by simp [ga, gu, mg])
 exact h pm s K KP
theorem A0 (c : Int) (pm : Bool) (s : ASt) (K KP : AV -> ASt -> Prop) : CW (run md pfs) md pm s 80 [.bool false, .int c] K KP () = KP (wr c) s := by
 obtain ⟨_, rfl, h⟩ := (Ta c).Yl rfl (by simp [ga, gu, mg])
 exact h pm s K KP
def om (es : List (AV × AV)) (gl : ByteArray -> Bool) : Prop := ∀ n, mj (.sc true) (.str n) es = some (if gl n then some (.bool true) else none)
theorem Zg (gl : ByteArray -> Bool) (ci mi : Nat) (fz : Bool) (es : List (AV × AV)) (hS : om es gl) (e : Ex) : ∀ {a v H0 T}, e.Is a -> H0[ci]? = some (.cells fz (vp ++ [.mp mi])) -> H0[mi]? = some (.map es) ->
  Sh md pfs 144 [.ptr ci 0, a, .int v] ⟨H0, T⟩ (λ x s' => e.err gl v = 0 /\ x = .tup [.int e.size, .int e.deep] /\ G5 H0 s') (λ x s' => e.err gl v ≠ 0 /\ x = wr (e.err gl v) /\ G5 H0 s') := by
 induction e using Ex.ind with
 | h k i n s kids ih =>
 intro a v H0 T h hc0 hm0
 obtain ⟨t1, t2, kas, rfl, g1, g2, g3, g4, g5, g6⟩ := h.opn
 have hc := gy hc0
 have hm := gy hm0
 have tl1 : (vp ++ [AV.mp mi]).length = 13 := rfl
 have tl2 : (vp ++ [AV.mp mi]).take 12 = vp := rfl
 have tl3 : (vp ++ [AV.mp mi]).drop 12 = [AV.mp mi] := rfl
 have tlp : gg vp = true := by decide
 obtain ⟨_, rfl, cf⟩ := (My h).call rfl (by simp [ga, gu, lu, tlp, qe _ h])
 obtain ⟨_, rfl, cn⟩ := (Az n g3.2).call rfl (by simp [ga, gu, mg])
 obtain ⟨_, rfl, cd⟩ := (Gn k).call rfl (by simp [ga, gu, mg])
 refine kg pf144_is (dh rfl) ?_
 have hmore : ∀ G T, G5 H0 ⟨H0 ++ G, T⟩ := λ G T => ⟨G, T, rfl⟩
 simp only [Ex.err]
 rw [show fmB k i n s kids.length = Ex.fm (.mk k i n s kids) from rfl]
 cases hf : (Ex.fm (.mk k i n s kids))
 ·simp only [pf144, ↓fj, wall, simprocAttr, wH, hc, hm, tl1, tl2, tl3, cf, hf, A0, pz]
  exact (by first | exact hmore _ _ | exact ⟨by decide, hmore _ _⟩)
 ·rw [if_neg (by decide)]
  have hnb : tn k = (k == 3 || k == 5) := rfl
  obtain ⟨gb, hgb⟩ : ∃ b, gl n = b := ⟨_, rfl⟩
  obtain ⟨nm, hnm⟩ : ∃ b, isName n = b := ⟨_, rfl⟩
  obtain ⟨iv, hiv⟩ : ∃ b, decide (i >= v) = b := ⟨_, rfl⟩
  obtain ⟨nb, hnb2⟩ : ∃ b, tn k = b := ⟨_, rfl⟩
  have hiv' : decide (i < v) = !iv := by rw [<- hiv, Bool.eq_iff_iff]; simp
  have hlk := hS n
  rw [hnm, hgb, hiv, hnb2]
  rw [hnm] at cn
  rw [hnb2] at cd
  rw [hgb] at hlk
  by_cases hN : nb = true /\ nm = false
  ·rw [if_pos hN]
   obtain ⟨rfl, rfl⟩ := hN
   simp only [pf144, ↓fj, wall, simprocAttr, wH, hc, hm, tl1, tl2, tl3, cf, hf, cd, cn, A0, yn, pz]
   exact (by first | exact hmore _ _ | exact ⟨by decide, hmore _ _⟩)
  rw [if_neg hN]
  have key : ∀ x0 x5 : Bool, (k != 0) = !x0 -> (k != 5) = !x5 -> (nb = true -> nm = true) -> (x5 = true -> nb = true) -> W (run md pfs) md pf144.body ⟨tmE pf144.nt (uv [.ptr ci 0, .agg [.int k, .int i, .str n, .sl (ints s) t1, .sl kas t2], .int v]), [], ⟨H0, T⟩⟩ (SQ pf144.res (λ x s' => (if x0 = true /\ iv = true then 24 else if x5 = true /\ gb = false then 9 else Af gl k s v 0 kids) = 0 /\ x = .tup [.int (Ex.size (.mk k i n s kids)), .int (Ex.deep (.mk k i n s kids))] /\ G5 H0 s') (λ x s' => (if x0 = true /\ iv = true then 24 else if x5 = true /\ gb = false then 9 else Af gl k s v 0 kids) ≠ 0 /\ x = wr (if x0 = true /\ iv = true then 24 else if x5 = true /\ gb = false then 9 else Af gl k s v 0 kids) /\ G5 H0 s')) () := by
   intro x0 x5 hx0 hx5 a1 a2
   by_cases hS' : x0 = true /\ iv = true
   ·rw [if_pos hS']
    obtain ⟨rfl, rfl⟩ := hS'
    cases nb
    all_goals try (have b1 := a1 rfl; subst b1)
    all_goals
     simp only [pf144, ↓fj, wall, simprocAttr, wH, hc, hm, tl1, tl2, tl3, cf, hf, cd, cn, hx0, hiv', A0, yn, pz]
     exact (by first | exact hmore _ _ | exact ⟨by decide, hmore _ _⟩)
   rw [if_neg hS']
   by_cases hG : x5 = true /\ gb = false
   ·rw [if_pos hG]
    obtain ⟨rfl, rfl⟩ := hG
    have b2 := a2 rfl; subst b2
    have b1 := a1 rfl; subst b1
    simp only [dy, if_false] at hlk
    have a3 : x0 = true -> iv = false := λ h => by cases iv; rfl; exact absurd ⟨h, rfl⟩ hS'
    cases x0
    all_goals try (have b3 := a3 rfl; subst b3)
    all_goals
     simp only [pf144, ↓fj, wall, simprocAttr, wH, hc, hm, tl1, tl2, tl3, cf, hf, cd, cn, hx0, hx5, hiv', hlk, xq, A0, yn, pz]
     exact (by first | exact hmore _ _ | exact ⟨by decide, hmore _ _⟩)
   rw [if_neg hG]
   have a3 : x0 = true -> iv = false := λ h => by cases iv; rfl; exact absurd ⟨h, rfl⟩ hS'
   have a4 : x5 = true -> gb = true := λ h => by cases gb; exact absurd ⟨h, rfl⟩ hG; rfl
   cases x0 <;> cases x5 <;> cases nb
   all_goals try (have b1 := a1 rfl; subst b1)
   all_goals try (have b2 := a2 rfl; cases b2)
   all_goals try (have b3 := a3 rfl; subst b3)
   all_goals try (have b4 := a4 rfl; subst b4; simp only [if_true] at hlk)
   all_goals
    simp only [pf144, ↓fj, wall, simprocAttr, wH, hc, hm, tl1, tl2, tl3, cf, hf, cd, cn, hx0, hx5, hiv', hlk, xq, A0, yn, pz]
    refine j6 (λ j => kas.length - j) (λ j E H T => ∃ G acc dep, H = H0 ++ (.cells false [.int k, .int i, .str n, .sl (ints s) t1, .sl kas t2] :: G) /\ E 0 = .ptr ci 0 /\ E 2 = .int v /\ E 4 = .ptr H0.length 0 /\ E 8 = .int acc /\ E 9 = .int dep /\ E 55 = .sl kas t2 /\ E 56 = .int kas.length /\ E 57 = .int j /\ j <= kas.length /\
     Af gl k s v j (kids.drop j) = Af gl k s v 0 kids /\ Ex.Bc acc (kids.drop j) = Ex.Bc 1 kids /\ Ex.uq dep (kids.drop j) = Ex.uq 0 kids) ?_ 0 ⟨_, 1, 0, rfl, rfl, rfl, rfl, rfl, rfl, rfl, rfl, rfl, dk _, rfl, rfl, rfl⟩
    rintro j E H T ⟨G, acc, dep, rfl, e0, e2, e4, e8, e9, e55, e56, e57, hj, hn1, hn2, hn3⟩
    rcases dj j kas.length with hlt | hge
    ·obtain ⟨y, c2, d0, d1, d3, d4, d5, d6, d7, d8⟩ := g6.get mz hlt
     have hdec : decide ((j : Int) < kas.length) = true := by simpa using hlt
     have hall := g6.all mz
     obtain ⟨_, rfl, cb⟩ := (R3 k i n s t1 t2 kas j (by omega) g4).call rfl (by simp [ga, gu, mg, qe _ h])
     rw [d1] at hn1 hn2 hn3
     simp only [Af, Ex.Bc, Ex.uq] at hn1 hn2 hn3
     rcases (ih y d3 (v := w64 (v + under k s j)) (H0 := H0 ++ (.cells false [.int k, .int i, .str n, .sl (ints s) t1, .sl kas t2] :: (G ++ [.cells false c2]))) (T := T) d8 (hc _) (hm _)).call rfl with ⟨r, s1, ⟨z1, rfl, G', T', rfl⟩, cr⟩ | ⟨r, s1, ⟨z1, rfl, G', T', rfl⟩, cr⟩
     ·simp only [↓fj, wall, simprocAttr, wH, hc, hm, e0, e2, e4, e8, e9, e55, e56, e57, hdec, d4, d5, d6, d7, hall, cb, cr]
      rw [if_pos z1] at hn1
      exact jm ⟨j + 1, by omega, _, _, _, rfl, e0, e2, e4, rfl, rfl, e55, e56, iw (by omega), by omega, hn1, hn2, hn3⟩
     ·simp only [↓fj, wall, simprocAttr, wH, hc, hm, e0, e2, e4, e8, e9, e55, e56, e57, hdec, d4, d5, d6, d7, hall, cb, cr, pz]
      rw [if_neg z1] at hn1
      rw [<- hn1]
      exact ⟨z1, rfl, hmore _ _⟩
    ·have hdec : decide ((j : Int) < kas.length) = false := by simpa using hge
     rw [bt (by rw [<- g6.len]; omega)] at hn1 hn2 hn3
     simp only [↓fj, wall, simprocAttr, wH, e0, e2, e4, e8, e9, e55, e56, e57, hdec]
     refine ⟨hn1.symm, ?_, hmore _ _⟩
     simp only [Ex.size, Ex.deep, <- hn2, <- hn3, Ex.Bc, Ex.uq]
  have e0 : (k != 0) = !(k == 0) := rfl
  have e5 : (k != 5) = !(k == 5) := rfl
  have := key (k == 0) (k == 5) e0 e5 (λ h => by cases nm; exact absurd ⟨h, rfl⟩ hN; rfl) (λ h => by rw [<- hnb2, hnb, h]; simp)
  exact this.mono λ r st hr => by simpa only [beq_iff_eq] using hr
end Go.Proofs.Eng
namespace Go.Proofs.Eng
open Go Go.Proofs
set_option maxRecDepth 100000
theorem Kq (gl : ByteArray -> Bool) (ci mi : Nat) (fz : Bool) (es : List (AV × AV)) (hS : om es gl) {e : Ex} {a : AV} {H0 : List fp} {T : List Nat} (h : e.Is a) (hc0 : H0[ci]? = some (.cells fz (vp ++ [.mp mi]))) (hm0 : H0[mi]? = some (.map es)) :
  Sh md pfs 110 [.ptr ci 0, a] ⟨H0, T⟩ (λ x s' => e.whole gl = 0 /\ x = .tup [] /\ G5 H0 s') (λ x s' => e.whole gl ≠ 0 /\ x = wr (e.whole gl) /\ G5 H0 s') := by
 have hmore : ∀ G T, G5 H0 ⟨H0 ++ G, T⟩ := λ G T => ⟨G, T, rfl⟩
 obtain ⟨c, rfl, l1, l2⟩ := mz.cells h
 have l3 : c.take 5 = c := au (by omega)
 refine kg pf110_is (dh rfl) ?_
 simp only [Ex.whole]
 rcases (Zg gl ci mi fz es hS e (v := 0) (H0 := H0 ++ [fp.cells false c]) (T := T) h (gy hc0 _) (gy hm0 _)).call rfl with ⟨r, s1, ⟨z1, rfl, G', T', rfl⟩, cr⟩ | ⟨r, s1, ⟨z1, rfl, G', T', rfl⟩, cr⟩
 ·rw [z1, if_neg (by decide)]
  cases b2 : decide (e.size > 4096)
  ·have b2' : decide (e.size <= 4096) = true := by simp at b2 ⊢; omega
   cases b3 : decide (e.deep > 200)
   ·have b3' : decide (e.deep <= 200) = true := by simp at b3 ⊢; omega
    simp only [pf110, ↓fj, wall, simprocAttr, wH, l1, l3, cr, b2', b3', yn]
    exact hmore _ _
   ·have b3' : decide (e.deep <= 200) = false := by simp at b3 ⊢; omega
    simp only [pf110, ↓fj, wall, simprocAttr, wH, l1, l3, cr, b2', b3', yn, A0, pz]
    exact (by first | exact hmore _ _ | exact ⟨by decide, hmore _ _⟩)
  ·have b2' : decide (e.size <= 4096) = false := by simp at b2 ⊢; omega
   simp only [pf110, ↓fj, wall, simprocAttr, wH, l1, l3, cr, b2', yn, A0, pz]
   exact (by first | exact hmore _ _ | exact ⟨by decide, hmore _ _⟩)
 ·rw [if_pos (by simpa using z1)]
  simp only [pf110, ↓fj, wall, simprocAttr, wH, l1, l3, cr, pz]
  exact ⟨z1, hmore _ _⟩
theorem En {call : gr} {res : List PR} {tm : List AV} {d : FuncId × List AV} {ds : List (FuncId × List AV)} {s : ASt} {p : Option AV} : js call md pfs res ⟨tm, d :: ds, s⟩ p = match jw call md pfs (d :: ds) p s with
  | some (none, s) => (m5 tm s res).map λ l => (.ret (qf l), s)
  | some (some v, s) => some (.pan v, s)
  | none => none := by cases p <;> rfl
theorem Wx {call : gr} {i : Nat} {s : ASt} : jw call md pfs [(120, [.ptr i 0])] none s = some (none, s) := by
 simp only [jw, pf120_is, pf120, PC.ou, Bool.or_false, dy, if_false, Gd, ak, ao, dp, Nat.reduceSub, List.replicate_succ, List.replicate_zero, bn, bo, mh, nh, ik, opA, evX, put, ic, bw, bu, bz, c6, fg, Gf, X.isC, if_true, Bool.xor_true, dz, m5, List.isEmpty_nil, Option.isSome_some, Bool.and_true, xz]
theorem Sz {call : gr} {i : Nat} {c x : Int} {H : List fp} {T : List Nat} (h : H[i]? = some (.cells false [.int x])) : jw call md pfs [(120, [.ptr i 0])] (some (wr c)) ⟨H, T⟩ = some (none, ⟨(H ++ [fp.cells false [.int c]]).set i (.cells false [.int c]), T⟩) := by
 have h2 := gy h [fp.cells false [.int c]]
 simp only [jw, pf120_is, pf120, PC.ou, Bool.or_false, dy, if_false, Gd, wr, ak, ao, dp, Nat.reduceSub, List.replicate_succ, List.replicate_zero, bn, bo, mh, nh, ik, opA, evX, put, ic, bw, bu, bz, c6, fg, Gf, X.isC, if_true, Bool.xor_true, dz, ed, m5, List.isEmpty_nil, Option.isSome_some, Bool.and_true, xz, unA, Option.bind_some, u4, ru, vu, List.getElem?_concat_length, F6, tj, Od, setAt, List.take_zero, List.drop_zero, db, List.all_nil, Hy, and_self, di, h2, List.drop_succ_cons, List.append_nil, List.head?_cons, List.drop_nil, Bool.true_and, Bool.xor_false, Nat.add_zero, dy, if_false]
theorem Sb {g : FuncId} {caps : List AV} (hg : md g = .shared) {H0 : List fp} {T : List Nat} {PR PP : AV -> ASt -> Prop} (h : Sh md pfs g caps ⟨H0 ++ [fp.cells false [.int 0]], T⟩ PR PP) (hPR : ∀ v s, PR v s -> s.H[H0.length]? = some (.cells false [.int 0])) (hPP : ∀ v s, PP v s -> (∃ c, v = wr c) /\ s.H[H0.length]? = some (.cells false [.int 0])) :
  Sh md pfs 77 [.fn g caps] ⟨H0, T⟩ (λ v s2 => (∃ u s1, PR u s1 /\ v = .int 0 /\ s2 = ⟨s1.H.set H0.length (.cells false [.int 0]), s1.T⟩) \/ (∃ c s1, PP (wr c) s1 /\ v = .int c /\ s2 = ⟨(s1.H ++ [fp.cells false [.int c]]).set H0.length (.cells false [.int c]), s1.T⟩)) λ _ _ => False := by
 have key := Rf (md := md) pf77_is (args := [.fn g caps]) (s := ⟨H0, T⟩) (P := λ out s2 => (∃ u s1, PR u s1 /\ out = .ret (.int 0) /\ s2 = ⟨s1.H.set H0.length (.cells false [.int 0]), s1.T⟩) \/ (∃ c s1, PP (wr c) s1 /\ out = .ret (.int c) /\ s2 = ⟨(s1.H ++ [fp.cells false [.int c]]).set H0.length (.cells false [.int c]), s1.T⟩)) (dh rfl) (by
  rcases h.call hg with ⟨u, s1, hu, hc⟩ | ⟨u, s1, hu, hc⟩
  ·have hH := hPR u s1 hu
   obtain ⟨H1, T1⟩ := s1
   have hlt := fy hH
   simp only at hlt hH
   have hset : (H1.set H0.length (.cells false [.int 0]))[H0.length]? = some (.cells false [.int 0]) := by simp [hlt]
   simp only [pf77, ↓fj, wall, simprocAttr, hc, hH, a3f, En, Wx, hset]
   exact .inl ⟨u, _, hu, rfl⟩
  ·obtain ⟨⟨c, rfl⟩, hH⟩ := hPP u s1 hu
   obtain ⟨H1, T1⟩ := s1
   have hlt := fy hH
   simp only at hlt hH
   have hset : ((H1 ++ [fp.cells false [.int c]]).set H0.length (.cells false [.int c]))[H0.length]? = some (.cells false [.int c]) := List.getElem?_set_self (by rw [ah]; omega)
   simp only [pf77, ↓fj, wall, simprocAttr, hc, hH, a5c, En, Sz hH, hset]
   exact .inr ⟨c, _, hu, rfl, rfl⟩)
 obtain ⟨out, s2, hr, ⟨u, s1, h1, rfl, rfl⟩ | ⟨c, s1, h1, rfl, rfl⟩⟩ := key
 ·refine ⟨_, _, .ret (.int 0), hr, by simp only [ju.gh, iu (n := 19) mg, fg], .inl ⟨u, s1, h1, rfl, ?_⟩⟩
  simp only [ju.frz, zk mg]
 ·refine ⟨_, _, .ret (.int c), hr, by simp only [ju.gh, iu (n := 19) mg, fg], .inr ⟨c, s1, h1, rfl, ?_⟩⟩
  simp only [ju.frz, zk mg]
end Go.Proofs.Eng
namespace Go.Proofs.Eng
open Go Go.Proofs
set_option maxRecDepth 100000
theorem Ot (n : ByteArray) (x : AV) : ∀ es : List (AV × AV), mj (.sc true) (.str n) es ≠ none -> ∃ es', upA (.sc true) (.str n) x es = some es' /\ ∀ m, mj (.sc true) (.str m) es' = if m = n then some (some x) else mj (.sc true) (.str m) es
 | [], _ => ⟨[(.str n, x)], rfl, λ m => by
   simp only [mj, mv, xw, nk]
   by_cases h : m = n <;> simp [h]⟩
 | (k', y) :: es, h => by
  cases hk : mv (.sc true) (.str n) k' with
  | none => rw [mj, hk] at h; exact absurd rfl h
  | some b =>
   have hk' : ∃ a, k' = .str a := by
    cases k' with
    | v z => cases z with
     | string a => exact ⟨a, rfl⟩
     | _ => simp [mv, xw] at hk
    | _ => simp [mv, xw] at hk
   obtain ⟨a, rfl⟩ := hk'
   simp only [mv, xw, nk, fe] at hk
   subst hk
   by_cases ha : n = a
   ·subst ha
    refine ⟨(.str n, x) :: es, by simp [upA, mv, xw, nk], λ m => ?_⟩
    simp only [mj, mv, xw, nk]
    by_cases h : m = n <;> simp [h]
   ·simp only [mj, mv, xw, nk, ha, decide_false] at h
    obtain ⟨es', h1, h2⟩ := Ot n x es h
    refine ⟨(.str a, y) :: es', by simp [upA, mv, xw, nk, ha, h1], λ m => ?_⟩
    simp only [mj, mv, xw, nk, h2]
    by_cases h : m = a
    ·subst h; simp [Ne.symm ha]
    ·simp [h]
theorem om.up {es : List (AV × AV)} {gl : ByteArray -> Bool} (h : om es gl) (n : ByteArray) : ∃ es', upA (.sc true) (.str n) (.v (.bool true)) es = some es' /\ om es' λ m => gl m || decide (m = n) := by
 obtain ⟨es', h1, h2⟩ := Ot n (.v (.bool true)) es (by rw [h n]; simp)
 refine ⟨es', h1, λ m => ?_⟩
 rw [h2 m, h m]
 by_cases hm : m = n <;> simp [hm]
theorem om.nil : om [] λ _ => false := λ n => by simp [mj]
theorem om.congr {es : List (AV × AV)} {gl gl' : ByteArray -> Bool} (h : om es gl) (e : ∀ n, gl n = gl' n) : om es gl' := λ n => by rw [h n, e n]
theorem Cs (n : ByteArray) : ∀ gs : List Gl, (A1 gs n).isSome = gs.any λ g => decide (g.1 = n)
 | [] => rfl
 | g :: gs => by
  rw [A1, List.any_cons]
  by_cases h : g.1 = n
  ·simp [h]
  ·simp [h, Cs n gs]
theorem Qb {p : Pr} {gas : List AV} {tg : Tl} {c : List AV} (hp : p.Is (.agg (.sl gas tg :: c))) {pi : Nat} {fz : Bool} {H0 : List fp} {T : List Nat} (hpi : H0[pi]? = some (.cells fz (.sl gas tg :: c))) :
  Sh md pfs 109 [.ptr pi 0] ⟨H0, T⟩ (λ x s' => p.check = 0 /\ x = .tup [] /\ G5 H0 s') (λ x s' => p.check ≠ 0 /\ x = wr p.check /\ G5 H0 s') := by
 have hmore : ∀ G T, G5 H0 ⟨H0 ++ G, T⟩ := λ G T => ⟨G, T, rfl⟩
 obtain ⟨h1, h2, h3, h4, h5, h6, h7, h8, h9, h10⟩ : _ /\ _ /\ _ /\ _ /\ _ /\ _ /\ _ /\ _ /\ _ /\ _ := by
  obtain ⟨gas', tg', c', e, h⟩ := hp
  cases e; exact h
 have hc := gy hpi
 have hl := h3.len
 have tl0 : vp.length = 12 := rfl
 have tl1 : ∀ x, (vp ++ [x]).length = 13 := λ _ => rfl
 have tl2 : ∀ x, (vp ++ [x]).take 12 = vp := λ _ => rfl
 have tl3 : ∀ x, (vp ++ [x]).drop 13 = [] := λ _ => rfl
 have tl4 : ∀ x, (vp ++ [x]).drop 12 = [x] := λ _ => rfl
 obtain ⟨_, rfl, ct⟩ := Mv.call rfl (by simp [gu])
 refine kg pf109_is (dh rfl) ?_
 simp only [Pr.check]
 rw [<- hl]
 cases b0 : decide ((gas.length : Int) > 1000)
 ·have b0' : decide ((gas.length : Int) <= 1000) = true := by simp at b0 ⊢; omega
  simp only [pf109, ↓fj, wall, simprocAttr, wH, hc, hpi, b0', yn, ct, tl0, tl1, tl2, tl3]
  refine j6 (λ j => gas.length - j) (λ j E H T => ∃ es G, H = H0 ++ (.map es :: .cells false (vp ++ [.mp H0.length]) :: G) /\ E 0 = .ptr pi 0 /\ E 1 = .ptr (H0.length + 1) 0 /\ E 17 = .sl gas tg /\ E 18 = .int gas.length /\ E 19 = .int j /\ j <= gas.length /\ om es λ n => (p.gs.take j).any λ g => decide (g.1 = n)) ?_ 0 ⟨[], [], rfl, rfl, rfl, rfl, rfl, rfl, dk _, om.nil⟩
  rintro j E H T ⟨es, G, rfl, e0, e1, e17, e18, e19, hj, hS⟩
  rcases dj j gas.length with hlt | hge
  ·obtain ⟨g, _, d0, d1, d3, d4, ⟨c2, rfl, hns, hg⟩⟩ := h3.at hlt
   obtain ⟨c3, e, b1, b2⟩ := mz.cells hg
   cases e
   have b3 : c2.take 5 = c2 := au (by omega)
   have hdec : decide ((j : Int) < gas.length) = true := by simpa using hlt
   obtain ⟨es', hup, hS'⟩ := hS.up g.1
   simp only [↓fj, wall, simprocAttr, wH, hc, e0, e1, e17, e18, e19, hdec, d4, h10, b1, b2, b3, tl4, hup, xq]
   refine jm ⟨j + 1, by omega, es', _, rfl, e0, e1, e17, e18, iw (by omega), by omega, hS'.congr λ n => ?_⟩
   rw [bj, d0]; simp [List.any_append, eq_comm]
  ·have hdec : decide ((j : Int) < gas.length) = false := by simpa using hge
   rw [au (by omega)] at hS
   have hgl : om es p.gl := hS.congr λ n => (Cs n p.gs).symm
   clear hS
   simp only [↓fj, wall, simprocAttr, wH, hc, e0, e1, e17, e18, e19, hdec]
   refine j6 (λ j => gas.length - j) (λ j E H T => ∃ seen G2, H = H0 ++ (.map es :: .cells false (vp ++ [.mp H0.length]) :: (G ++ (.map seen :: G2))) /\ E 0 = .ptr pi 0 /\ E 1 = .ptr (H0.length + 1) 0 /\ E 4 = .mp (H0.length + (G.length + 1 + 1)) /\ E 32 = .sl gas tg /\ E 33 = .int gas.length /\ E 34 = .int j /\ j <= gas.length /\ (om seen λ n => (p.gs.take j).any λ g => decide (g.1 = n)) /\ p.go (p.gs.take j) (p.gs.drop j) = p.go [] p.gs) ?_ 0 ⟨[], [], rfl, e0, e1, rfl, rfl, rfl, rfl, dk _, om.nil, rfl⟩
   clear hj e17 e18 e19 hdec hge e0 e1 E j T
   rintro j E H T ⟨seen, G2, rfl, e0, e1, e4, e32, e33, e34, hj, hS, hn⟩
   rcases dj j gas.length with hlt | hge
   ·obtain ⟨g, _, d0, d1, d3, d4, ⟨c2, rfl, hns, hg⟩⟩ := h3.at hlt
    obtain ⟨c3, e, b1, b2⟩ := mz.cells hg
    cases e
    have b3 : c2.take 5 = c2 := au (by omega)
    have hdec : decide ((j : Int) < gas.length) = true := by simpa using hlt
    rw [d1, Pr.go] at hn
    obtain ⟨_, rfl, cn⟩ := (Az g.1 hns).call rfl (by simp [ga, gu, mg])
    cases nm : isName g.1
    ·rw [if_pos nm] at hn
     simp only [↓fj, wall, simprocAttr, wH, hc, e0, e1, e4, e32, e33, e34, hdec, d4, h10, b1, b2, b3, cn, nm, A0, pz]
     rw [<- hn]
     exact ⟨by decide, rfl, hmore _ _⟩
    ·rw [if_neg (by rw [nm]; decide)] at hn
     have hlk : mj (.sc true) (.str g.1) seen = some (if ((p.gs.take j).any λ x => decide (x.1 = g.1)) = true then some (.bool true) else none) := hS g.1
     cases hsn : ((p.gs.take j).any λ x => decide (x.1 = g.1))
     ·rw [hsn] at hlk hn
      simp only [dy, if_false] at hlk hn
      obtain ⟨seen', hup, hS'⟩ := hS.up g.1
      rcases (Kq p.gl (H0.length + 1) H0.length false es hgl (H0 := H0 ++ (.map es :: .cells false (vp ++ [.mp H0.length]) :: (G ++ (.map seen' :: (G2 ++ [.cells false (.str g.1 :: c2)]))))) (T := T) hg (by rw [yf]; rfl) (by rw [yc]; rfl)).call rfl with ⟨r, s1, ⟨z1, rfl, G', T', rfl⟩, cr⟩ | ⟨r, s1, ⟨z1, rfl, G', T', rfl⟩, cr⟩
      ·simp only [↓fj, wall, simprocAttr, wH, hc, e0, e1, e4, e32, e33, e34, hdec, d4, h10, b1, b2, b3, cn, nm, yn, hlk, hup, cr, xq]
       rw [if_neg (by simpa using z1)] at hn
       refine jm ⟨j + 1, by omega, seen', _, rfl, e0, e1, e4, e32, e33, iw (by omega), by omega, hS'.congr λ n => ?_, by rw [bj, d0]; exact hn⟩
       rw [bj, d0]; simp [List.any_append, eq_comm]
      ·simp only [↓fj, wall, simprocAttr, wH, hc, e0, e1, e4, e32, e33, e34, hdec, d4, h10, b1, b2, b3, cn, nm, yn, hlk, hup, cr, xq, pz]
       rw [if_pos (by simpa using z1)] at hn
       rw [<- hn]
       exact ⟨z1, rfl, hmore _ _⟩
     ·rw [hsn] at hlk hn
      simp only [if_true] at hlk hn
      simp only [↓fj, wall, simprocAttr, wH, hc, e0, e1, e4, e32, e33, e34, hdec, d4, h10, b1, b2, b3, cn, nm, yn, A0, hlk, xq, pz]
      rw [<- hn]
      exact ⟨by decide, rfl, hmore _ _⟩
   ·have hdec : decide ((j : Int) < gas.length) = false := by simpa using hge
    rw [bt (by rw [<- h3.len]; omega), Pr.go] at hn
    rcases (Kq p.gl (H0.length + 1) H0.length false es hgl (H0 := H0 ++ (.map es :: .cells false (vp ++ [.mp H0.length]) :: (G ++ (.map seen :: G2)))) (T := T) h4 (by rw [yf]; rfl) (by rw [yc]; rfl)).call rfl with ⟨r, s1, ⟨z1, rfl, G', T', rfl⟩, cr⟩ | ⟨r, s1, ⟨z1, rfl, G', T', rfl⟩, cr⟩
    ·simp only [↓fj, wall, simprocAttr, wH, hc, e0, e1, e4, e32, e33, e34, hdec, h5, h6, cr]
     rw [<- hn]
     exact ⟨z1, hmore _ _⟩
    ·simp only [↓fj, wall, simprocAttr, wH, hc, e0, e1, e4, e32, e33, e34, hdec, h5, h6, cr, pz]
     rw [<- hn]
     exact ⟨z1, rfl, hmore _ _⟩
 ·have b0' : decide ((gas.length : Int) <= 1000) = false := by simp at b0 ⊢; omega
  simp only [pf109, ↓fj, wall, simprocAttr, wH, hpi, hc, b0', A0, pz]
  exact (by first | exact ⟨[], T, by simp⟩ | exact ⟨by decide, [], T, by simp⟩)
theorem Rq {p : Pr} {pa : AV} (hp : p.Is pa) : Out md pfs 66 [pa] (· = .int p.check) λ _ => False := by
 obtain ⟨gas, tg, c, rfl, h1, h2, h3, h4, h5, h6, h7, h8, h9, h10⟩ := id hp
 refine iy pf66_is (dh rfl) ?_
 have hcs := Sb (g := 109) (caps := [.ptr 0 0]) rfl (H0 := [.cells false (.sl gas tg :: c)]) (T := []) (Qb hp (pi := 0) (fz := false) (H0 := [.cells false (.sl gas tg :: c)] ++ [.cells false [.int 0]]) (T := []) rfl) (by rintro v s ⟨_, _, G, T, rfl⟩; rfl) (by rintro v s ⟨_, h, G, T, rfl⟩; exact ⟨⟨_, h⟩, rfl⟩)
 rcases hcs.call rfl with ⟨v, s', ⟨u, s1, ⟨z, rfl, _⟩, rfl, rfl⟩ | ⟨x, s1, ⟨z, e, _⟩, rfl, rfl⟩, hc⟩ | ⟨_, _, h, _⟩
 ·simp only [pf66, ↓fj, wall, simprocAttr, hc]
  rw [z]
 ·have : x = p.check := by simpa [wr] using e
  subst this
  simp only [pf66, ↓fj, wall, simprocAttr, hc]
 ·exact h.elim
end Go.Proofs.Eng
namespace Go.Proofs.Eng
open Go Go.Proofs
theorem yd {k i : Int} {n : ByteArray} {s : List Int} {l : Nat} (h : fmB k i n s l = true) :
  0 <= k /\ k < 12 /\ 0 <= i /\ s.length <= 32 /\ l <= 4096 /\ (∀ x ∈ s, 0 <= x /\ x <= 64) /\
  (k = 0 -> l = 0 /\ s = [] /\ n.size = 0) /\ (k = 4 -> l = s.length + 1) /\ ((k = 2 \/ k = 7 \/ k = 8) -> l = 2) /\ ((k = 1 \/ k = 9 \/ k = 10) -> l = 1) /\ (k = 3 -> i < 32) := by
 simp only [fmB, dx, decide_eq_true_eq] at h
 obtain ⟨⟨⟨⟨⟨h0, h1⟩, h2⟩, h3⟩, h4⟩, h5⟩ := h
 unfold K2 at h5
 by_cases k3 : k = 3
 ·rw [if_pos k3] at h5
  simp [Pw] at h5
  obtain ⟨⟨rfl, h6⟩, h7⟩ := h5
  refine ⟨h0, h1, h2, by simp, by omega, by simp, ?_, ?_, ?_, ?_, ?_⟩ <;> (intro; omega)
 ·rw [if_neg k3] at h5
  by_cases k4 : k = 4
  ·rw [if_pos k4] at h5
   simp only [Ko, dx, decide_eq_true_eq, beq_iff_eq, Bool.not_eq_true', List.any_eq_false] at h5
   obtain ⟨⟨h6, h7⟩, h8⟩ := h5
   refine ⟨h0, h1, h2, h6, by omega, ?_, ?_, ?_, ?_, ?_, ?_⟩
   ·intro x hx
    have := h8 x hx
    simp [Ds] at this
    omega
   all_goals (intro; omega)
  ·rw [if_neg k4] at h5
   simp [Kv] at h5
   obtain ⟨h6, rfl⟩ := h5
   have hk : kn k = (if k = 1 \/ k = 9 \/ k = 10 then 1 else if k = 2 \/ k = 7 \/ k = 8 then 2 else 0) := rfl
   have hl : l <= 4096 := by
    split at hk
    ·omega
    ·split at hk <;> omega
   refine ⟨h0, h1, h2, by simp, hl, by simp, ?_, ?_, ?_, ?_, ?_⟩
   ·intro h
    refine ⟨?_, rfl, ?_⟩
    ·rw [hk, if_neg (by omega), if_neg (by omega)] at h6; omega
    ·subst h; simpa [tn] using h3
   ·intro; omega
   ·intro h; rw [hk, if_neg (by omega), if_pos h] at h6; omega
   ·intro h; rw [hk, if_pos h] at h6; omega
   ·intro; omega
mutual
def Ex.wf : Ex -> Prop
 | .mk k i n s kids => fmB k i n s kids.length = true /\ wfL kids
def wfL : List Ex -> Prop
 | [] => True
 | e :: es => e.wf /\ wfL es
end
mutual
def Ex.dep : Ex -> Nat
 | .mk _ _ _ _ kids => Qh kids + 1
def Qh : List Ex -> Nat
 | [] => 0
 | e :: es => max e.dep (Qh es)
end
theorem a0h {l : List Ex} {e : Ex} (h : e ∈ l) : e.dep <= Qh l := by
 induction l with
 | nil => simp at h
 | cons x l ih =>
  simp only [Qh]
  rcases List.mem_cons.1 h with rfl | h
  ·omega
  ·have := ih h; omega
end Go.Proofs.Eng
