/- The reference's check. No conditions beyond those in the theorems. -/
import Derived.Test.YtjiheebhmokfbaaDoorA3
set_option linter.all false
set_option linter.deprecated false
set_option linter.unnecessarySimpa false
set_option linter.unusedVariables false
set_option linter.unusedSimpArgs false
set_option linter.defProp false
namespace Go.Proofs.Eng
open Go Go.Proofs
set_option maxRecDepth 100000
theorem digF_ge : ∀ (f u : Nat), ∀ c ∈ digF f u, 48 ≤ c.toNat
  | 0, _, c, h => by simp [digF] at h
  | f + 1, u, c, h => by
    rw [digF] at h
    have key : ∀ d, d < 10 → (UInt8.ofNat (48 + d)).toNat = 48 + d := fun d hd => by
      rw [UInt8.toNat_ofNat']; omega
    split at h
    · simp only [List.mem_singleton] at h
      rw [h, key _ ‹_›]; omega
    · rcases List.mem_append.1 h with h | h
      · exact digF_ge f (u / 10) c h
      · simp only [List.mem_singleton] at h
        rw [h, key _ (by omega)]; omega
def valU (l : List UInt8) : Nat := l.foldl (fun a c => 10 * a + (c.toNat - 48)) 0
theorem valU_digF : ∀ (f u : Nat), u < 10 ^ (f + 1) → valU (digF (f + 1) u) = u
  | 0, u, h => by
    have h : u < 10 := by simpa using h
    have key : (UInt8.ofNat (48 + u)).toNat = 48 + u := by rw [UInt8.toNat_ofNat']; omega
    simp only [digF, h, if_true, valU, List.foldl_cons, List.foldl_nil, key]; omega
  | f + 1, u, h => by
    rw [digF]
    split
    · have key : (UInt8.ofNat (48 + u)).toNat = 48 + u := by rw [UInt8.toNat_ofNat']; omega
      simp only [valU, List.foldl_cons, List.foldl_nil, key]; omega
    · have key : (UInt8.ofNat (48 + u % 10)).toNat = 48 + u % 10 := by rw [UInt8.toNat_ofNat']; omega
      have ih := valU_digF f (u / 10) (by rw [Nat.pow_succ] at h; omega)
      unfold valU at ih ⊢
      rw [List.foldl_append, ih]
      simp only [List.foldl_cons, List.foldl_nil, key]; omega
def valN : List UInt8 → Int
  | [] => 0
  | c :: l => if c = 45 then -(valU l : Nat) else (valU (c :: l) : Nat)
theorem valN_numF {n : Int} (h : in64 n) : valN (numF n) = n := by
  unfold in64 at h
  unfold numF
  split
  · rw [valN, if_pos rfl, valU_digF 19 _ (by omega)]; omega
  · have hv := valU_digF 19 n.toNat (by omega)
    have hg := digF_ge 20 n.toNat
    generalize digF (19 + 1) n.toNat = L at *
    cases L with
    | nil => rw [valN]; simp [valU] at hv; omega
    | cons c L =>
      have := hg c (by simp)
      rw [valN, if_neg (fun e => by rw [e] at this; exact absurd this (by decide)), hv]; omega
theorem numF_32 {n : Int} : ∀ c ∈ numF n, c ≠ 32 := by
  intro c hc e
  subst e
  unfold numF at hc
  split at hc
  · rcases List.mem_cons.1 hc with h | h
    · exact absurd h (by decide)
    · exact absurd (digF_ge _ _ _ h) (by decide)
  · exact absurd (digF_ge _ _ _ hc) (by decide)
theorem split_at {a b x y : List UInt8} (ha : ∀ c ∈ a, c ≠ 32) (hb : ∀ c ∈ b, c ≠ 32) (h : a ++ 32 :: x = b ++ 32 :: y) : a = b ∧ x = y := by
  induction a generalizing b with
  | nil =>
    cases b with
    | nil => simpa using h
    | cons c b => simp at h; exact absurd h.1.symm (hb c (by simp))
  | cons c a ih =>
    cases b with
    | nil => simp at h; exact absurd h.1 (ha c (by simp))
    | cons d b =>
      simp only [List.cons_append, List.cons.injEq] at h
      obtain ⟨e1, e2⟩ := ih (fun c hc => ha c (by simp [hc])) (fun c hc => hb c (by simp [hc])) h.2
      exact ⟨by rw [h.1, e1], e2⟩
def nS (x : Int) : List UInt8 := numF x ++ [32]
theorem nS_inj (a b : Int) (x y : List UInt8) (ha : in64 a) (hb : in64 b) (h : nS a ++ x = nS b ++ y) : a = b ∧ x = y := by
  have h' : numF a ++ 32 :: x = numF b ++ 32 :: y := by simpa [nS] using h
  obtain ⟨e1, e2⟩ := split_at numF_32 numF_32 h'
  exact ⟨by rw [← valN_numF ha, e1, valN_numF hb], e2⟩
theorem shift32 : ∀ l : List Int, 32 :: l.flatMap nS = l.flatMap spN ++ [32]
  | [] => rfl
  | x :: l => by
    have := shift32 l
    simp only [List.flatMap_cons, nS, spN, List.append_assoc, List.cons_append, List.nil_append]
    rw [← this]
def lvI (l : Lv) : List Int := l.c :: (l.vs.length : Int) :: l.vs.flatMap fun v => [v.1, v.2]
def tailI (n : Nd) : List Int := n.i :: (n.ls.length : Int) :: (n.ls.flatMap lvI ++ n.kids)
theorem lvT_sp (l : Lv) : lvT l = (lvI l).flatMap spN := by
  have e : ∀ vs : List (Int × Int), vs.flatMap vT = (vs.flatMap fun v => [v.1, v.2]).flatMap spN := by
    intro vs
    induction vs with
    | nil => rfl
    | cons v vs ih => simp [vT, ih]
  simp [lvT, lvI, e]
theorem lvsT_sp : ∀ ls : List Lv, ls.flatMap lvT = (ls.flatMap lvI).flatMap spN
  | [] => rfl
  | l :: ls => by simp [lvT_sp, lvsT_sp ls]
theorem body_sp (n : Nd) : bodyT n = numF n.k ++ (tailI n).flatMap spN := by
  simp [bodyT, headT, tailI, lvsT_sp]
theorem key_sp (n : Nd) : keyX n = (n.k :: tailI n).flatMap nS ++ n.n.toList := by
  have := shift32 (tailI n)
  have e : keyX n = numF n.k ++ ((tailI n).flatMap spN ++ [32]) ++ n.n.toList := by simp [keyX, body_sp]
  rw [e, ← this]
  simp [nS]
def Lv.fine64 (l : Lv) : Prop := in64 l.c ∧ l.vs.length ≤ 70000 ∧ ∀ v ∈ l.vs, in64 v.1 ∧ in64 v.2
def vS (v : Int × Int) : List UInt8 := nS v.1 ++ nS v.2
def lvS (l : Lv) : List UInt8 := nS l.c ++ (nS l.vs.length ++ l.vs.flatMap vS)
theorem lvS_eq (l : Lv) : (lvI l).flatMap nS = lvS l := by
  have e : ∀ vs : List (Int × Int), (vs.flatMap fun v => [v.1, v.2]).flatMap nS = vs.flatMap vS := by
    intro vs
    induction vs with
    | nil => rfl
    | cons v vs ih => simp [vS, ih]
  simp [lvI, lvS, e]
theorem lvsS_eq : ∀ ls : List Lv, (ls.flatMap lvI).flatMap nS = ls.flatMap lvS
  | [] => rfl
  | l :: ls => by simp [lvS_eq, lvsS_eq ls]
theorem vS_inj (a b : Int × Int) (x y : List UInt8) (ha : in64 a.1 ∧ in64 a.2) (hb : in64 b.1 ∧ in64 b.2) (h : vS a ++ x = vS b ++ y) : a = b ∧ x = y := by
  simp only [vS, List.append_assoc] at h
  obtain ⟨h1, h⟩ := nS_inj _ _ _ _ ha.1 hb.1 h
  obtain ⟨h2, h⟩ := nS_inj _ _ _ _ ha.2 hb.2 h
  exact ⟨Prod.ext h1 h2, h⟩
theorem lvS_inj (a b : Lv) (x y : List UInt8) (ha : a.fine64) (hb : b.fine64) (h : lvS a ++ x = lvS b ++ y) : a = b ∧ x = y := by
  simp only [lvS, List.append_assoc] at h
  obtain ⟨h1, h⟩ := nS_inj _ _ _ _ ha.1 hb.1 h
  obtain ⟨h2, h⟩ := nS_inj _ _ _ _ (by unfold in64; have := ha.2.1; omega) (by unfold in64; have := hb.2.1; omega) h
  obtain ⟨h3, h⟩ := flat_inj vS_inj _ _ _ _ (by omega) ha.2.2 hb.2.2 h
  refine ⟨?_, h⟩
  cases a; cases b
  simp only at h1 h3
  subst h1; subst h3; rfl
theorem valid_64 {l : Lv} (h : validB l = true) : l.fine64 := by
  obtain ⟨⟨h0, h1⟩, h2, h3⟩ := valid_fine h
  refine ⟨by unfold in64; omega, ?_, fun v hv => ?_⟩
  · have h' := h
    simp only [validB, Bool.and_eq_true] at h'
    have h4 := asc_len l.vs h'.1.2 fun v hv => (h3 v hv).1
    cases hv : l.vs with
    | nil => simp
    | cons v vs =>
      have h5 := h4 v (by rw [hv]; rfl)
      have h6 := (h1 v (by rw [hv]; simp)).1
      rw [hv] at h5
      omega
  · have h5 := h1 v hv
    have h6 := h3 v hv
    unfold in64; omega
theorem formed_facts {n : Nd} (h : n.formed = true) : (0 ≤ n.k ∧ n.k ≤ 12) ∧ (0 ≤ n.i ∧ n.i ≤ 2147483647) ∧ n.ls.length ≤ 8 ∧ (∀ l ∈ n.ls, l.fine64) ∧ (n.kids.length : Int) = kidsN n.k ∧ n.kids.length ≤ 3 ∧ n.n.size ≤ 65536 := by
  obtain ⟨f, h1, h2, h3, h4⟩ := right_facts h
  have h5 : kidsN n.k = ((n.kids.map fun _ => (Tm.mk 0 0 ⟨#[]⟩ [] [])).length : Nat) := f.kids
  rw [List.length_map] at h5
  have h6 : (n.k = 0 ∨ n.k = 12 → 0 ≤ n.i) ∧ (n.k ≠ 0 → n.k ≠ 12 → n.i = 0) := f.ix
  have h4' : n.i ≤ 2147483647 := h4
  have h7 := kidsN_range (k := n.k) (by omega)
  have h8 : kidsN n.k ≤ 3 := by unfold kidsN; split <;> (try split) <;> (try split) <;> (try split) <;> omega
  refine ⟨h7, ⟨?_, h4'⟩, h2, fun l hl => valid_64 (h1 l hl), h5.symm, by omega, h3⟩
  by_cases k0 : n.k = 0 ∨ n.k = 12
  · exact h6.1 k0
  · rw [h6.2 (fun e => k0 (.inl e)) (fun e => k0 (.inr e))]; exact Int.le_refl _
theorem key_inj {a b : Nd} (ha : a.formed = true) (hb : b.formed = true) (ka : ∀ x ∈ a.kids, in64 x) (kb : ∀ x ∈ b.kids, in64 x) (h : keyX a = keyX b) : a = b := by
  obtain ⟨⟨a1, a2⟩, ⟨a3, a4⟩, a5, a6, a7, _, a8⟩ := formed_facts ha
  obtain ⟨⟨b1, b2⟩, ⟨b3, b4⟩, b5, b6, b7, _, b8⟩ := formed_facts hb
  rw [key_sp, key_sp] at h
  simp only [tailI, List.flatMap_cons, List.flatMap_append, lvsS_eq, List.append_assoc] at h
  obtain ⟨h1, h⟩ := nS_inj _ _ _ _ (by unfold in64; omega) (by unfold in64; omega) h
  obtain ⟨h2, h⟩ := nS_inj _ _ _ _ (by unfold in64; omega) (by unfold in64; omega) h
  obtain ⟨h3, h⟩ := nS_inj _ _ _ _ (by unfold in64; omega) (by unfold in64; omega) h
  obtain ⟨h4, h⟩ := flat_inj lvS_inj _ _ _ _ (by omega) a6 b6 h
  obtain ⟨h5, h⟩ := flat_inj nS_inj _ _ _ _ (by rw [h1] at a7; omega) ka kb h
  have h6 := toList_inj h
  cases a; cases b
  simp only at h1 h2 h4 h5 h6
  subst h1; subst h2; subst h4; subst h5; subst h6; rfl
theorem spN_len {x : Int} (h : in64 x) : (spN x).length ≤ 22 := by have := numF_len h; simp [spN]; omega
theorem flat_bound {α : Type} {f : α → List UInt8} {m : Nat} : ∀ {l : List α}, (∀ x ∈ l, (f x).length ≤ m) → (l.flatMap f).length ≤ l.length * m
  | [], _ => by simp
  | x :: l, h => by
    have h1 := h x (by simp)
    have h2 := flat_bound (l := l) (f := f) fun y hy => h y (by simp [hy])
    rw [List.flatMap_cons, List.length_append, List.length_cons, Nat.add_mul]; omega
theorem key_len {n : Nd} (h : n.formed = true) (hk : ∀ x ∈ n.kids, in64 x) : (keyX n).length ≤ 1000000000 := by
  obtain ⟨⟨a1, a2⟩, ⟨a3, a4⟩, a5, a6, a7, a9, a8⟩ := formed_facts h
  have h1 : ∀ l ∈ n.ls, (lvT l).length ≤ 5000000 := fun l hl => by
    obtain ⟨f1, f2, f3⟩ := a6 l hl
    have g1 := spN_len f1
    have g2 := spN_len (x := (l.vs.length : Int)) (by unfold in64; omega)
    have g3 := flat_bound (f := vT) (m := 44) (l := l.vs) fun v hv => by
      have := spN_len (f3 v hv).1; have := spN_len (f3 v hv).2
      simp [vT]; omega
    simp only [lvT, List.length_append]; omega
  have h2 := flat_bound h1
  have h3 := flat_bound (f := spN) (m := 22) (l := n.kids) fun x hx => spN_len (hk x hx)
  have h4 := numF_len (x := n.k) (by unfold in64; omega)
  have h5 := spN_len (x := n.i) (by unfold in64; omega)
  have h6 := spN_len (x := (n.ls.length : Int)) (by unfold in64; omega)
  have h7 : n.n.toList.length = n.n.size := toList_len _
  have h8 : n.ls.length * 5000000 ≤ 8 * 5000000 := Nat.mul_le_mul_right _ a5
  simp only [keyX, bodyT, headT, List.length_append, List.length_cons]; omega
set_option maxHeartbeats 16000000
theorem index82_ret {α : Type} {R : α → AV → Prop} (hR : AggR R 2) (f : FuncId) (caps : List AV) (hf : md f = .pure) (hcaps : pureAVs caps = true) (p : α → Bool) {l : List α} {al : List AV} {t : Tl} (h : LIs R l al) (hl : al.length ≤ lenB) (hg : ∀ x ∈ l, ∀ a, R x a → Out md pfs f (a :: caps) (· = .bool (p x)) fun _ => False) :
    Out md pfs 82 [.sl al t, .fn f caps] (fun v => ∃ r : Int, v = .int r ∧ ((r = -1 ∧ l.any p = false) ∨ ∃ (j : Nat) (x : α), r = j ∧ l[j]? = some x ∧ p x = true ∧ (l.take j).any p = false)) fun _ => False := by
  refine out_of pf82_is (Nat.le_of_ble_eq_true rfl) ?_
  simp only [pf82, ↓wpre, wset, wcore, wext, ne_eq, if_true, if_false, exists_eq_left', true_implies, false_implies, exists_const, exists_eq_right, binA, intA, loadA, storeA, pickC, setAt, mapO, argsE, X.isC, resA, oneA, unA, boundA, eqiA, eqsA, fillA, fillE, ASt.fz, strA, simprocAttr]
  refine W_loopE (fun j => al.length - j) (fun j E H T => E 0 = .sl al t ∧ E 1 = .fn f caps ∧ E 7 = .int al.length ∧ E 8 = .int j ∧ j ≤ al.length ∧ (l.take j).any p = false) ?_ 0 ?_
  · rintro j E H T ⟨e0, e1, e7, e8, hj, hn⟩
    rcases Nat.lt_or_ge j al.length with hlt | hge
    · obtain ⟨x, c, d0, d1, d3, d4, d5, d6, d7, d8⟩ := h.get hR hlt
      have hdec : decide ((j : Int) < al.length) = true := by simpa using hlt
      have hall := h.all hR
      obtain ⟨v, rfl, hc⟩ := (hg x d3 _ d8).call hf (by simp [pvs_cons, hR.pure d8, hcaps])
      cases hp : p x
      · simp only [↓wpre, wset, wcore, wext, ne_eq, if_true, if_false, exists_eq_left', true_implies, false_implies, exists_const, exists_eq_right, binA, intA, loadA, storeA, pickC, setAt, mapO, argsE, X.isC, resA, oneA, unA, boundA, eqiA, eqsA, fillA, fillE, ASt.fz, strA, simprocAttr, e0, e1, e7, e8, hdec, d4, d5, d6, hall, hc, hp]
        exact EQ_in ⟨j + 1, by omega, e0, e1, e7, next_ixv (by unfold lenB at *; omega), by omega, by rw [List.take_add_one, d0]; simp [List.any_append, hn, hp]⟩
      · simp only [↓wpre, wset, wcore, wext, ne_eq, if_true, if_false, exists_eq_left', true_implies, false_implies, exists_const, exists_eq_right, binA, intA, loadA, storeA, pickC, setAt, mapO, argsE, X.isC, resA, oneA, unA, boundA, eqiA, eqsA, fillA, fillE, ASt.fz, strA, simprocAttr, e0, e1, e7, e8, hdec, d4, d5, d6, hall, hc, hp]
        exact ⟨_, rfl, .inr ⟨j, x, rfl, d0, hp, hn⟩⟩
    · have hdec : decide ((j : Int) < al.length) = false := by simpa using hge
      simp only [↓wpre, wset, wcore, wext, ne_eq, if_true, if_false, exists_eq_left', true_implies, false_implies, exists_const, exists_eq_right, binA, intA, loadA, storeA, pickC, setAt, mapO, argsE, X.isC, resA, oneA, unA, boundA, eqiA, eqsA, fillA, fillE, ASt.fz, strA, simprocAttr, e0, e1, e7, e8, hdec]
      rw [List.take_of_length_le (by rw [← h.len]; omega)] at hn
      exact ⟨_, rfl, .inl ⟨rfl, hn⟩⟩
  · exact ⟨rfl, rfl, rfl, rfl, Nat.zero_le _, rfl⟩
theorem cont82_ret {α : Type} {R : α → AV → Prop} (hR : AggR R 2) (f : FuncId) (caps : List AV) (hf : md f = .pure) (hcaps : pureAVs caps = true) (p : α → Bool) {l : List α} {al : List AV} {t : Tl} (ht : t.pure = true) (h : LIs R l al) (hl : al.length ≤ lenB) (hg : ∀ x ∈ l, ∀ a, R x a → Out md pfs f (a :: caps) (· = .bool (p x)) fun _ => False) :
    Out md pfs 64 [.sl al t, .fn f caps] (· = .bool (l.any p)) fun _ => False := by
  have hal := h.pure fun _ _ h => hR.pure h
  obtain ⟨_, ⟨r, rfl, hr⟩, hc⟩ := (index82_ret hR f caps hf hcaps p (t := t) h hl hg).call rfl (by simp [pvs_cons, pvs_nil, pv_sl, pv_fn, ht, hal, hcaps])
  have hd : decide (r ≥ 0) = l.any p := by
    rcases hr with ⟨rfl, h2⟩ | ⟨j, x, rfl, h2, h3, _⟩
    · rw [h2]; rfl
    · have : l.any p = true := List.any_eq_true.2 ⟨x, List.mem_of_getElem? h2, h3⟩
      rw [this]; simp
  refine out_of pf64_is (Nat.le_of_ble_eq_true rfl) ?_
  simp only [pf64, ↓wpre, wset, wcore, wext, ne_eq, if_true, if_false, exists_eq_left', true_implies, false_implies, exists_const, exists_eq_right, binA, intA, loadA, storeA, pickC, setAt, mapO, argsE, X.isC, resA, oneA, unA, boundA, eqiA, eqsA, fillA, fillE, ASt.fz, strA, simprocAttr, hc, hd]
theorem index67_ret (f : FuncId) (caps : List AV) (hf : md f = .pure) (hcaps : pureAVs caps = true) (p : Int → Bool) {l : List Int} {t : Tl} (hl : l.length ≤ lenB) (hg : ∀ x ∈ l, Out md pfs f (.int x :: caps) (· = .bool (p x)) fun _ => False) :
    Out md pfs 67 [.sl (ints l) t, .fn f caps] (fun v => ∃ r : Int, v = .int r ∧ ((r = -1 ∧ l.any p = false) ∨ ∃ (j : Nat) (x : Int), r = j ∧ l[j]? = some x ∧ p x = true ∧ (l.take j).any p = false)) fun _ => False := by
  refine out_of pf67_is (Nat.le_of_ble_eq_true rfl) ?_
  have hall := ints_all l
  simp only [pf67, ↓wpre, wset, wcore, wext, ne_eq, if_true, if_false, exists_eq_left', true_implies, false_implies, exists_const, exists_eq_right, binA, intA, loadA, storeA, pickC, setAt, mapO, argsE, X.isC, resA, oneA, unA, boundA, eqiA, eqsA, fillA, fillE, ASt.fz, strA, simprocAttr, ints_len]
  refine W_loopE (fun j => l.length - j) (fun j E H T => E 0 = .sl (ints l) t ∧ E 1 = .fn f caps ∧ E 7 = .int l.length ∧ E 8 = .int j ∧ j ≤ l.length ∧ (l.take j).any p = false) ?_ 0 ?_
  · rintro j E H T ⟨e0, e1, e7, e8, hj, hn⟩
    rcases Nat.lt_or_ge j l.length with hlt | hge
    · obtain ⟨x, d0, d1, d2⟩ := ints_get hlt
      have hdec : decide ((j : Int) < l.length) = true := by simpa using hlt
      obtain ⟨v, rfl, hc⟩ := (hg x (List.mem_of_getElem? d0)).call hf (by simp [pvs_cons, pv_v, hcaps])
      cases hp : p x
      · simp only [↓wpre, wset, wcore, wext, ne_eq, if_true, if_false, exists_eq_left', true_implies, false_implies, exists_const, exists_eq_right, binA, intA, loadA, storeA, pickC, setAt, mapO, argsE, X.isC, resA, oneA, unA, boundA, eqiA, eqsA, fillA, fillE, ASt.fz, strA, simprocAttr, e0, e1, e7, e8, hdec, d2, hall, hc, hp]
        exact EQ_in ⟨j + 1, by omega, e0, e1, e7, next_ixv (by unfold lenB at *; omega), by omega, by rw [List.take_add_one, d0]; simp [List.any_append, hn, hp]⟩
      · simp only [↓wpre, wset, wcore, wext, ne_eq, if_true, if_false, exists_eq_left', true_implies, false_implies, exists_const, exists_eq_right, binA, intA, loadA, storeA, pickC, setAt, mapO, argsE, X.isC, resA, oneA, unA, boundA, eqiA, eqsA, fillA, fillE, ASt.fz, strA, simprocAttr, e0, e1, e7, e8, hdec, d2, hall, hc, hp]
        exact ⟨_, rfl, .inr ⟨j, x, rfl, d0, hp, hn⟩⟩
    · have hdec : decide ((j : Int) < l.length) = false := by simpa using hge
      simp only [↓wpre, wset, wcore, wext, ne_eq, if_true, if_false, exists_eq_left', true_implies, false_implies, exists_const, exists_eq_right, binA, intA, loadA, storeA, pickC, setAt, mapO, argsE, X.isC, resA, oneA, unA, boundA, eqiA, eqsA, fillA, fillE, ASt.fz, strA, simprocAttr, e0, e1, e7, e8, hdec]
      rw [List.take_of_length_le (by omega)] at hn
      exact ⟨_, rfl, .inl ⟨rfl, hn⟩⟩
  · exact ⟨rfl, rfl, rfl, rfl, Nat.zero_le _, rfl⟩
theorem cont35_ret (f : FuncId) (caps : List AV) (hf : md f = .pure) (hcaps : pureAVs caps = true) (p : Int → Bool) {l : List Int} {t : Tl} (ht : t.pure = true) (hl : l.length ≤ lenB) (hg : ∀ x ∈ l, Out md pfs f (.int x :: caps) (· = .bool (p x)) fun _ => False) :
    Out md pfs 35 [.sl (ints l) t, .fn f caps] (· = .bool (l.any p)) fun _ => False := by
  obtain ⟨_, ⟨r, rfl, hr⟩, hc⟩ := (index67_ret f caps hf hcaps p (t := t) hl hg).call rfl (by simp [pvs_cons, pvs_nil, pv_sl, pv_fn, ht, ints_pure, hcaps])
  have hd : decide (r ≥ 0) = l.any p := by
    rcases hr with ⟨rfl, h2⟩ | ⟨j, x, rfl, h2, h3, _⟩
    · rw [h2]; rfl
    · have : l.any p = true := List.any_eq_true.2 ⟨x, List.mem_of_getElem? h2, h3⟩
      rw [this]; simp
  refine out_of pf35_is (Nat.le_of_ble_eq_true rfl) ?_
  simp only [pf35, ↓wpre, wset, wcore, wext, ne_eq, if_true, if_false, exists_eq_left', true_implies, false_implies, exists_const, exists_eq_right, binA, intA, loadA, storeA, pickC, setAt, mapO, argsE, X.isC, resA, oneA, unA, boundA, eqiA, eqsA, fillA, fillE, ASt.fz, strA, simprocAttr, hc, hd]
set_option maxHeartbeats 4000000
theorem seqE {c : Oracle} {md : FuncId → Md} {a b : PC} {E0 : Env} {s : ASt} {Q : AExit → St → Prop} {nt : Nat} {df : List (FuncId × List AV)} (J : Env → List AObj → List Nat → Prop) (h1 : W c md a ⟨tmE nt E0, df, s⟩ (LQ (EQ nt df J) Q) ()) (h2 : ∀ E H T, J E H T → W c md b ⟨tmE nt E, df, ⟨H, T⟩⟩ Q ()) : W c md (.seq a b) ⟨tmE nt E0, df, s⟩ Q () := by
  rw [W_seq]
  refine h1.mono fun r st' hr => ?_
  cases r with
  | normal =>
    obtain ⟨E, H, T, rfl, hJ⟩ := hr
    exact h2 E H T hJ
  | _ => exact hr
def kidsG (k : Int) : Int := if k = 4 ∨ k = 5 ∨ k = 6 ∨ k = 7 then 2 else if k = 8 ∨ k = 11 then 3 else if k = 9 ∨ k = 10 then 1 else 0
theorem kidsG_eq {k : Int} (h0 : 0 ≤ k) (h1 : k ≤ 12) : kidsG k = kidsN k := by
  unfold kidsG kidsN
  repeat' split
  all_goals omega
theorem gkids_ret (k : Int) : Out md pfs 63 [.int k] (· = .int (kidsG k)) fun _ => False := by
  refine out_of pf63_is (Nat.le_of_ble_eq_true rfl) ?_
  by_cases h4 : k = 4
  · subst h4; simp only [pf63, ↓wpre, wset, wcore, wext, ne_eq, if_true, if_false, exists_eq_left', true_implies, false_implies, exists_const, exists_eq_right, binA, intA, loadA, storeA, pickC, setAt, mapO, argsE, X.isC, resA, oneA, unA, boundA, eqiA, eqsA, fillA, fillE, ASt.fz, strA, simprocAttr, show kidsG 4 = 2 from by decide]
  by_cases h5 : k = 5
  · subst h5; simp only [pf63, ↓wpre, wset, wcore, wext, ne_eq, if_true, if_false, exists_eq_left', true_implies, false_implies, exists_const, exists_eq_right, binA, intA, loadA, storeA, pickC, setAt, mapO, argsE, X.isC, resA, oneA, unA, boundA, eqiA, eqsA, fillA, fillE, ASt.fz, strA, simprocAttr, show kidsG 5 = 2 from by decide]
  by_cases h6 : k = 6
  · subst h6; simp only [pf63, ↓wpre, wset, wcore, wext, ne_eq, if_true, if_false, exists_eq_left', true_implies, false_implies, exists_const, exists_eq_right, binA, intA, loadA, storeA, pickC, setAt, mapO, argsE, X.isC, resA, oneA, unA, boundA, eqiA, eqsA, fillA, fillE, ASt.fz, strA, simprocAttr, show kidsG 6 = 2 from by decide]
  by_cases h7 : k = 7
  · subst h7; simp only [pf63, ↓wpre, wset, wcore, wext, ne_eq, if_true, if_false, exists_eq_left', true_implies, false_implies, exists_const, exists_eq_right, binA, intA, loadA, storeA, pickC, setAt, mapO, argsE, X.isC, resA, oneA, unA, boundA, eqiA, eqsA, fillA, fillE, ASt.fz, strA, simprocAttr, show kidsG 7 = 2 from by decide]
  by_cases h8 : k = 8
  · subst h8; simp only [pf63, ↓wpre, wset, wcore, wext, ne_eq, if_true, if_false, exists_eq_left', true_implies, false_implies, exists_const, exists_eq_right, binA, intA, loadA, storeA, pickC, setAt, mapO, argsE, X.isC, resA, oneA, unA, boundA, eqiA, eqsA, fillA, fillE, ASt.fz, strA, simprocAttr, show kidsG 8 = 3 from by decide]
  by_cases h11 : k = 11
  · subst h11; simp only [pf63, ↓wpre, wset, wcore, wext, ne_eq, if_true, if_false, exists_eq_left', true_implies, false_implies, exists_const, exists_eq_right, binA, intA, loadA, storeA, pickC, setAt, mapO, argsE, X.isC, resA, oneA, unA, boundA, eqiA, eqsA, fillA, fillE, ASt.fz, strA, simprocAttr, show kidsG 11 = 3 from by decide]
  by_cases h9 : k = 9
  · subst h9; simp only [pf63, ↓wpre, wset, wcore, wext, ne_eq, if_true, if_false, exists_eq_left', true_implies, false_implies, exists_const, exists_eq_right, binA, intA, loadA, storeA, pickC, setAt, mapO, argsE, X.isC, resA, oneA, unA, boundA, eqiA, eqsA, fillA, fillE, ASt.fz, strA, simprocAttr, show kidsG 9 = 1 from by decide]
  by_cases h10 : k = 10
  · subst h10; simp only [pf63, ↓wpre, wset, wcore, wext, ne_eq, if_true, if_false, exists_eq_left', true_implies, false_implies, exists_const, exists_eq_right, binA, intA, loadA, storeA, pickC, setAt, mapO, argsE, X.isC, resA, oneA, unA, boundA, eqiA, eqsA, fillA, fillE, ASt.fz, strA, simprocAttr, show kidsG 10 = 1 from by decide]
  have q4 : (k == 4) = false := by simpa using h4
  have q5 : (k == 5) = false := by simpa using h5
  have q6 : (k == 6) = false := by simpa using h6
  have q7 : (k == 7) = false := by simpa using h7
  have q8 : (k == 8) = false := by simpa using h8
  have q9 : (k == 9) = false := by simpa using h9
  have q10 : (k == 10) = false := by simpa using h10
  have q11 : (k == 11) = false := by simpa using h11
  simp only [pf63, ↓wpre, wset, wcore, wext, ne_eq, if_true, if_false, exists_eq_left', true_implies, false_implies, exists_const, exists_eq_right, binA, intA, loadA, storeA, pickC, setAt, mapO, argsE, X.isC, resA, oneA, unA, boundA, eqiA, eqsA, fillA, fillE, ASt.fz, strA, simprocAttr, q4, q5, q6, q7, q8, q9, q10, q11]
  rw [kidsG, if_neg (by omega), if_neg (by omega), if_neg (by omega)]
theorem formed_iff (n : Nd) : n.formed = true ↔
    n.ls.all validB = true ∧ kidsN n.k = n.kids.length ∧ (n.k = 2 → n.ls.length = 1) ∧ (n.k = 3 → n.ls.length ≤ 8) ∧ (n.k ≠ 2 → n.k ≠ 3 → n.ls.length = 0) ∧ n.n.size ≤ 65536 ∧ ((n.k = 0 ∨ n.k = 12) → 0 ≤ n.i ∧ n.i ≤ 2147483647 ∧ n.n.size = 0) ∧ (¬ (n.k = 0 ∨ n.k = 12) → n.i = 0 ∧ (n.k = 3 ∨ n.n.size = 0)) := by
  unfold Nd.formed Nd.tm
  rw [right_iff, List.length_map]
theorem formed_no {n : Nd} (h : ¬ n.formed = true) : AV.v (.bool false) = .bool n.formed := by
  cases hr : n.formed with
  | false => rfl
  | true => exact absurd hr h
theorem formed1_ret {l : Lv} {a : AV} (h : l.Is a) : Out md pfs 65 [a] (· = .bool (!validB l)) fun _ => False := by
  obtain ⟨_, rfl, cv⟩ := (valid_ret h).call rfl (by simp [pvs_cons, pvs_nil, lvPure h])
  obtain ⟨c, rfl, c1, c2, c3⟩ := lvCells h
  refine out_of pf65_is (Nat.le_of_ble_eq_true rfl) ?_
  simp only [pf65, ↓wpre, wset, wcore, wext, ne_eq, if_true, if_false, exists_eq_left', true_implies, false_implies, exists_const, exists_eq_right, binA, intA, loadA, storeA, pickC, setAt, mapO, argsE, X.isC, resA, oneA, unA, boundA, eqiA, eqsA, fillA, fillE, ASt.fz, strA, simprocAttr, c1, c2, cv]
theorem gformed_ret {n : Nd} {a : AV} (h : n.Is a) : Out md pfs 34 [a] (· = .bool n.formed) fun _ => False := by
  obtain ⟨t1, t2, las, rfl, g1, g2, g3, g4, g5, g6, g7, g8, g9⟩ := h
  have hll := g8.len
  have hik := ints_len n.kids
  have hlp := lvsPure g8
  obtain ⟨_, rfl, ck⟩ := (gkids_ret n.k).call rfl (by simp [pvs_cons, pvs_nil, pv_v])
  obtain ⟨_, rfl, cc⟩ := (cont82_ret lvAgg 65 [] rfl pvs_nil (fun l => !validB l) g1 g8 g6 (fun x _ a hx => formed1_ret hx)).call rfl (by simp [pvs_cons, pvs_nil, pv_sl, pv_fn, hlp, g1])
  have hemp := empty_str (s := n.n)
  have hF := formed_iff n
  refine out_of pf34_is (Nat.le_of_ble_eq_true rfl) ?_
  simp only [pf34]
  refine seqE (fun E H T => H = [.cells false [.int n.k, .int n.i, .str n.n, .sl las t1, .sl (ints n.kids) t2]] ∧ E 1 = .ptr 0 0) ?_ ?_
  · simp only [↓wpre, wset, wcore, wext, ne_eq, if_true, if_false, exists_eq_left', true_implies, false_implies, exists_const, exists_eq_right, binA, intA, loadA, storeA, pickC, setAt, mapO, argsE, X.isC, resA, oneA, unA, boundA, eqiA, eqsA, fillA, fillE, ASt.fz, strA, simprocAttr]; exact EQ_in ⟨rfl, rfl⟩
  rintro E H T ⟨rfl, e1⟩
  refine seqE (fun E H T => H = [.cells false [.int n.k, .int n.i, .str n.n, .sl las t1, .sl (ints n.kids) t2]] ∧ E 1 = .ptr 0 0 ∧ 0 ≤ n.k ∧ n.k < 13 ∧ (n.kids.length : Int) = kidsG n.k) ?_ ?_
  · cases c1 : decide (n.k < 0)
    case true =>
      simp only [decide_eq_true_eq] at c1
      have c1' : decide (n.k < 0) = true := by simp only [decide_eq_true_eq]; exact c1
      simp only [↓wpre, wset, wcore, wext, ne_eq, if_true, if_false, exists_eq_left', true_implies, false_implies, exists_const, exists_eq_right, binA, intA, loadA, storeA, pickC, setAt, mapO, argsE, X.isC, resA, oneA, unA, boundA, eqiA, eqsA, fillA, fillE, ASt.fz, strA, simprocAttr, e1, c1']
      exact formed_no fun hh => by have := formed_facts hh; omega
    cases c2 : decide (n.k ≥ 13)
    case true =>
      simp only [↓wpre, wset, wcore, wext, ne_eq, if_true, if_false, exists_eq_left', true_implies, false_implies, exists_const, exists_eq_right, binA, intA, loadA, storeA, pickC, setAt, mapO, argsE, X.isC, resA, oneA, unA, boundA, eqiA, eqsA, fillA, fillE, ASt.fz, strA, simprocAttr, e1, c1, c2]
      simp only [decide_eq_true_eq] at c2
      exact formed_no fun hh => by have := formed_facts hh; omega
    cases c3 : ((n.kids.length : Int) != kidsG n.k)
    case true =>
      simp only [↓wpre, wset, wcore, wext, ne_eq, if_true, if_false, exists_eq_left', true_implies, false_implies, exists_const, exists_eq_right, binA, intA, loadA, storeA, pickC, setAt, mapO, argsE, X.isC, resA, oneA, unA, boundA, eqiA, eqsA, fillA, fillE, ASt.fz, strA, simprocAttr, e1, c1, c2, ck, hik, c3]
      simp only [decide_eq_false_iff_not, bne_iff_ne, ne_eq] at c1 c2 c3
      exact formed_no fun hh => by
        have := formed_facts hh
        have := kidsG_eq (k := n.k) (by omega) (by omega)
        omega
    simp only [↓wpre, wset, wcore, wext, ne_eq, if_true, if_false, exists_eq_left', true_implies, false_implies, exists_const, exists_eq_right, binA, intA, loadA, storeA, pickC, setAt, mapO, argsE, X.isC, resA, oneA, unA, boundA, eqiA, eqsA, fillA, fillE, ASt.fz, strA, simprocAttr, e1, c1, c2, ck, hik, c3]
    simp only [decide_eq_false_iff_not, bne_eq_false_iff_eq] at c1 c2 c3
    exact EQ_in ⟨rfl, e1, by omega, by omega, c3⟩
  clear E T e1
  rintro E H T ⟨rfl, e1, k0, k13, kk⟩
  refine seqE (fun E H T => H = [.cells false [.int n.k, .int n.i, .str n.n, .sl las t1, .sl (ints n.kids) t2]] ∧ E 1 = .ptr 0 0 ∧ E 3 = .bool (n.k == 0 || n.k == 12)) ?_ ?_
  · cases q0 : (n.k == 0)
    · simp only [↓wpre, wset, wcore, wext, ne_eq, if_true, if_false, exists_eq_left', true_implies, false_implies, exists_const, exists_eq_right, binA, intA, loadA, storeA, pickC, setAt, mapO, argsE, X.isC, resA, oneA, unA, boundA, eqiA, eqsA, fillA, fillE, ASt.fz, strA, simprocAttr, e1, q0]; exact EQ_in ⟨rfl, e1, rfl⟩
    · simp only [↓wpre, wset, wcore, wext, ne_eq, if_true, if_false, exists_eq_left', true_implies, false_implies, exists_const, exists_eq_right, binA, intA, loadA, storeA, pickC, setAt, mapO, argsE, X.isC, resA, oneA, unA, boundA, eqiA, eqsA, fillA, fillE, ASt.fz, strA, simprocAttr, e1, q0]; exact EQ_in ⟨rfl, e1, rfl⟩
  clear E T e1
  rintro E H T ⟨rfl, e1, e3⟩
  refine seqE (fun E H T => H = [.cells false [.int n.k, .int n.i, .str n.n, .sl las t1, .sl (ints n.kids) t2]] ∧ E 1 = .ptr 0 0 ∧ 0 ≤ n.i ∧ n.i ≤ 2147483647 ∧ (n.i = 0 ∨ n.k = 0 ∨ n.k = 12)) ?_ ?_
  · cases c1 : decide (n.i < 0)
    case true =>
      simp only [↓wpre, wset, wcore, wext, ne_eq, if_true, if_false, exists_eq_left', true_implies, false_implies, exists_const, exists_eq_right, binA, intA, loadA, storeA, pickC, setAt, mapO, argsE, X.isC, resA, oneA, unA, boundA, eqiA, eqsA, fillA, fillE, ASt.fz, strA, simprocAttr, e1, e3, c1]
      simp only [decide_eq_true_eq] at c1
      exact formed_no fun hh => by have := formed_facts hh; omega
    cases c2 : decide (n.i > 2147483647)
    case true =>
      simp only [↓wpre, wset, wcore, wext, ne_eq, if_true, if_false, exists_eq_left', true_implies, false_implies, exists_const, exists_eq_right, binA, intA, loadA, storeA, pickC, setAt, mapO, argsE, X.isC, resA, oneA, unA, boundA, eqiA, eqsA, fillA, fillE, ASt.fz, strA, simprocAttr, e1, e3, c1, c2]
      simp only [decide_eq_true_eq] at c2
      exact formed_no fun hh => by have := formed_facts hh; omega
    cases c3 : decide (n.i > 0)
    case false =>
      simp only [↓wpre, wset, wcore, wext, ne_eq, if_true, if_false, exists_eq_left', true_implies, false_implies, exists_const, exists_eq_right, binA, intA, loadA, storeA, pickC, setAt, mapO, argsE, X.isC, resA, oneA, unA, boundA, eqiA, eqsA, fillA, fillE, ASt.fz, strA, simprocAttr, e1, e3, c1, c2, c3]
      simp only [decide_eq_false_iff_not] at c1 c2 c3
      exact EQ_in ⟨rfl, e1, by omega, by omega, .inl (by omega)⟩
    cases c4 : (n.k == 0 || n.k == 12)
    case false =>
      rw [c4] at e3
      simp only [↓wpre, wset, wcore, wext, ne_eq, if_true, if_false, exists_eq_left', true_implies, false_implies, exists_const, exists_eq_right, binA, intA, loadA, storeA, pickC, setAt, mapO, argsE, X.isC, resA, oneA, unA, boundA, eqiA, eqsA, fillA, fillE, ASt.fz, strA, simprocAttr, e1, e3, c1, c2, c3]
      simp only [decide_eq_true_eq, Bool.or_eq_false_iff, beq_eq_false_iff_ne, ne_eq] at c3 c4
      exact formed_no fun hh => by
        obtain ⟨_, _, _, _, _, _, _, r8⟩ := hF.1 hh
        have := (r8 (by omega)).1
        omega
    rw [c4] at e3
    simp only [↓wpre, wset, wcore, wext, ne_eq, if_true, if_false, exists_eq_left', true_implies, false_implies, exists_const, exists_eq_right, binA, intA, loadA, storeA, pickC, setAt, mapO, argsE, X.isC, resA, oneA, unA, boundA, eqiA, eqsA, fillA, fillE, ASt.fz, strA, simprocAttr, e1, e3, c1, c2, c3]
    simp only [decide_eq_false_iff_not, Bool.or_eq_true, beq_iff_eq] at c1 c2 c4
    exact EQ_in ⟨rfl, e1, by omega, by omega, .inr c4⟩
  clear E T e1 e3
  rintro E H T ⟨rfl, e1, i0, i1, i2⟩
  refine seqE (fun E H T => H = [.cells false [.int n.k, .int n.i, .str n.n, .sl las t1, .sl (ints n.kids) t2]] ∧ E 1 = .ptr 0 0 ∧ n.n.size ≤ 65536 ∧ (n.k = 3 ∨ n.n.size = 0)) ?_ ?_
  · cases c1 : decide ((n.n.size : Int) > 65536)
    case true =>
      simp only [↓wpre, wset, wcore, wext, ne_eq, if_true, if_false, exists_eq_left', true_implies, false_implies, exists_const, exists_eq_right, binA, intA, loadA, storeA, pickC, setAt, mapO, argsE, X.isC, resA, oneA, unA, boundA, eqiA, eqsA, fillA, fillE, ASt.fz, strA, simprocAttr, e1, c1]
      simp only [decide_eq_true_eq] at c1
      exact formed_no fun hh => by have := formed_facts hh; omega
    cases c2 : (n.n.size == 0)
    case true =>
      simp only [↓wpre, wset, wcore, wext, ne_eq, if_true, if_false, exists_eq_left', true_implies, false_implies, exists_const, exists_eq_right, binA, intA, loadA, storeA, pickC, setAt, mapO, argsE, X.isC, resA, oneA, unA, boundA, eqiA, eqsA, fillA, fillE, ASt.fz, strA, simprocAttr, e1, c1, hemp, c2]
      simp only [decide_eq_false_iff_not, beq_iff_eq] at c1 c2
      exact EQ_in ⟨rfl, e1, by omega, .inr c2⟩
    cases c3 : (n.k != 3)
    case true =>
      simp only [↓wpre, wset, wcore, wext, ne_eq, if_true, if_false, exists_eq_left', true_implies, false_implies, exists_const, exists_eq_right, binA, intA, loadA, storeA, pickC, setAt, mapO, argsE, X.isC, resA, oneA, unA, boundA, eqiA, eqsA, fillA, fillE, ASt.fz, strA, simprocAttr, e1, c1, hemp, c2, c3]
      simp only [bne_iff_ne, ne_eq, beq_eq_false_iff_ne] at c3 c2
      exact formed_no fun hh => by
        obtain ⟨_, _, _, _, _, _, r7, r8⟩ := hF.1 hh
        by_cases k : n.k = 0 ∨ n.k = 12
        · exact c2 (r7 k).2.2
        · exact (r8 k).2.elim c3 c2
    simp only [↓wpre, wset, wcore, wext, ne_eq, if_true, if_false, exists_eq_left', true_implies, false_implies, exists_const, exists_eq_right, binA, intA, loadA, storeA, pickC, setAt, mapO, argsE, X.isC, resA, oneA, unA, boundA, eqiA, eqsA, fillA, fillE, ASt.fz, strA, simprocAttr, e1, c1, hemp, c2, c3]
    simp only [decide_eq_false_iff_not, bne_eq_false_iff_eq] at c1 c3
    exact EQ_in ⟨rfl, e1, by omega, .inl c3⟩
  clear E T e1
  rintro E H T ⟨rfl, e1, s0, s1⟩
  refine seqE (fun E H T => H = [.cells false [.int n.k, .int n.i, .str n.n, .sl las t1, .sl (ints n.kids) t2]] ∧ E 1 = .ptr 0 0 ∧ (n.k = 2 → n.ls.length = 1) ∧ (n.k = 3 → n.ls.length ≤ 8) ∧ (n.k ≠ 2 → n.k ≠ 3 → n.ls.length = 0)) ?_ ?_
  · cases q2 : (n.k == 2)
    case true =>
      cases c1 : ((las.length : Int) != 1)
      case true =>
        simp only [↓wpre, wset, wcore, wext, ne_eq, if_true, if_false, exists_eq_left', true_implies, false_implies, exists_const, exists_eq_right, binA, intA, loadA, storeA, pickC, setAt, mapO, argsE, X.isC, resA, oneA, unA, boundA, eqiA, eqsA, fillA, fillE, ASt.fz, strA, simprocAttr, e1, q2, c1]
        simp only [bne_iff_ne, ne_eq, beq_iff_eq] at c1 q2
        exact formed_no fun hh => by
          obtain ⟨_, _, r3, _⟩ := hF.1 hh
          have := r3 q2; omega
      simp only [↓wpre, wset, wcore, wext, ne_eq, if_true, if_false, exists_eq_left', true_implies, false_implies, exists_const, exists_eq_right, binA, intA, loadA, storeA, pickC, setAt, mapO, argsE, X.isC, resA, oneA, unA, boundA, eqiA, eqsA, fillA, fillE, ASt.fz, strA, simprocAttr, e1, q2, c1]
      simp only [bne_eq_false_iff_eq, beq_iff_eq] at c1 q2
      exact EQ_in ⟨rfl, e1, by omega, by omega, by omega⟩
    cases q3 : (n.k == 3)
    case true =>
      cases c1 : decide ((las.length : Int) > 8)
      case true =>
        simp only [↓wpre, wset, wcore, wext, ne_eq, if_true, if_false, exists_eq_left', true_implies, false_implies, exists_const, exists_eq_right, binA, intA, loadA, storeA, pickC, setAt, mapO, argsE, X.isC, resA, oneA, unA, boundA, eqiA, eqsA, fillA, fillE, ASt.fz, strA, simprocAttr, e1, q2, q3, c1]
        simp only [decide_eq_true_eq, beq_iff_eq] at c1 q3
        exact formed_no fun hh => by
          obtain ⟨_, _, _, r4, _⟩ := hF.1 hh
          have := r4 q3; omega
      simp only [↓wpre, wset, wcore, wext, ne_eq, if_true, if_false, exists_eq_left', true_implies, false_implies, exists_const, exists_eq_right, binA, intA, loadA, storeA, pickC, setAt, mapO, argsE, X.isC, resA, oneA, unA, boundA, eqiA, eqsA, fillA, fillE, ASt.fz, strA, simprocAttr, e1, q2, q3, c1]
      simp only [decide_eq_false_iff_not, beq_iff_eq] at c1 q3
      exact EQ_in ⟨rfl, e1, by omega, by omega, by omega⟩
    cases c1 : decide ((las.length : Int) > 0)
    case true =>
      simp only [↓wpre, wset, wcore, wext, ne_eq, if_true, if_false, exists_eq_left', true_implies, false_implies, exists_const, exists_eq_right, binA, intA, loadA, storeA, pickC, setAt, mapO, argsE, X.isC, resA, oneA, unA, boundA, eqiA, eqsA, fillA, fillE, ASt.fz, strA, simprocAttr, e1, q2, q3, c1]
      simp only [decide_eq_true_eq, beq_eq_false_iff_ne, ne_eq] at c1 q2 q3
      exact formed_no fun hh => by
        obtain ⟨_, _, _, _, r5, _⟩ := hF.1 hh
        have := r5 q2 q3; omega
    simp only [↓wpre, wset, wcore, wext, ne_eq, if_true, if_false, exists_eq_left', true_implies, false_implies, exists_const, exists_eq_right, binA, intA, loadA, storeA, pickC, setAt, mapO, argsE, X.isC, resA, oneA, unA, boundA, eqiA, eqsA, fillA, fillE, ASt.fz, strA, simprocAttr, e1, q2, q3, c1]
    simp only [decide_eq_false_iff_not, beq_eq_false_iff_ne, ne_eq] at c1 q2 q3
    exact EQ_in ⟨rfl, e1, by omega, by omega, by omega⟩
  clear E T e1
  rintro E H T ⟨rfl, e1, l2, l3, l0⟩
  simp only [↓wpre, wset, wcore, wext, ne_eq, if_true, if_false, exists_eq_left', true_implies, false_implies, exists_const, exists_eq_right, binA, intA, loadA, storeA, pickC, setAt, mapO, argsE, X.isC, resA, oneA, unA, boundA, eqiA, eqsA, fillA, fillE, ASt.fz, strA, simprocAttr, e1, cc]
  have : (!(n.ls.any fun l => !validB l)) = n.formed := by
    rw [Bool.eq_iff_iff, hF, ← kidsG_eq k0 (by omega)]
    simp only [Bool.not_eq_true', List.any_eq_false, Bool.not_eq_true, Bool.not_eq_false']
    constructor
    · intro h
      exact ⟨List.all_eq_true.2 fun x hx => by have := h x hx; simpa using this, kk.symm, l2, l3, l0, s0, fun k => ⟨i0, i1, by omega⟩, fun k => ⟨by omega, s1⟩⟩
    · rintro ⟨h, _⟩ x hx
      have := List.all_eq_true.1 h x hx
      simpa using this
  rw [this]
set_option maxHeartbeats 16000000
def GIs (N : List Nd) (a : AV) : Prop := ∃ al t, a = .agg [.sl al t] ∧ t.pure = true ∧ al.length ≤ lenB ∧ LIs Nd.Is N al
theorem gPure {N : List Nd} {a : AV} (h : GIs N a) : pureAV a = true := by
  obtain ⟨al, t, rfl, h1, _, h2⟩ := h
  have := h2.pure fun _ _ h => ndPure h
  simp [pv_agg, pv_sl, pvs_cons, pvs_nil, h1, this]
theorem check1_ret (k i : Int) : Out md pfs 36 [.int k, .ip [.int i] 0] (· = .bool (decide (k < 0) || decide (k ≥ i))) fun _ => False := by
  refine out_of pf36_is (Nat.le_of_ble_eq_true rfl) ?_
  cases c1 : decide (k < 0)
  · simp only [pf36, ↓wpre, wset, wcore, wext, ne_eq, if_true, if_false, exists_eq_left', true_implies, false_implies, exists_const, exists_eq_right, binA, intA, loadA, storeA, pickC, setAt, mapO, argsE, X.isC, resA, oneA, unA, boundA, eqiA, eqsA, fillA, fillE, ASt.fz, strA, simprocAttr, c1, Bool.false_or]
  · simp only [pf36, ↓wpre, wset, wcore, wext, ne_eq, if_true, if_false, exists_eq_left', true_implies, false_implies, exists_const, exists_eq_right, binA, intA, loadA, storeA, pickC, setAt, mapO, argsE, X.isC, resA, oneA, unA, boundA, eqiA, eqsA, fillA, fillE, ASt.fz, strA, simprocAttr, c1, Bool.true_or]
theorem range_any (n : Nd) (m : Nat) : (n.kids.any fun k => decide (k < 0) || decide (k ≥ (m : Int))) = !n.inR m := by
  unfold Nd.inR
  rw [List.not_all_eq_any_not]
  congr 1
  funext k
  rw [Bool.eq_iff_iff]
  simp only [Bool.or_eq_true, decide_eq_true_eq, Bool.not_eq_true', Bool.and_eq_false_iff, decide_eq_false_iff_not]
  omega
theorem range_call {ks : List Int} {t : Tl} (ht : t.pure = true) (hl : ks.length ≤ lenB) {H : List AObj} {T : List Nat} {q : Nat} {i : Int} (hq : H[q]? = some (.cells false [.int i])) : ∀ K KP, CW (run md pfs) md false ⟨H, T⟩ 35 [.sl (ints ks) t, .fn 36 [.ptr q 0]] K KP () = K (.bool (ks.any fun k => decide (k < 0) || decide (k ≥ i))) ⟨H.set q (.cells true [.int i]), T⟩ := by
  have hpsl : pureAV (.sl (ints ks) t) = true := by rw [pv_sl, ht, ints_pure]; rfl
  obtain ⟨_, rfl, hc⟩ := (cont35_ret 36 [.ip [.int i] 0] rfl (by simp [pvs_cons, pvs_nil, pv_ip, pv_v]) (fun k => decide (k < 0) || decide (k ≥ i)) ht hl (fun x _ => check1_ret x i)).callP rfl (s := ⟨H, T⟩) (args := [.sl (ints ks) t, .fn 36 [.ptr q 0]]) (by
    simp only [mapO, purify20 hpsl, pz_fn, pz_ptr, hq, List.length_cons, List.length_nil, Nat.zero_le, if_true, purify_pure (n := 17) pv_v, Option.map_some])
  intro K KP
  rw [hc K KP]
  have e1 : frz 20 ⟨H, T⟩ (.sl (ints ks) t) = ⟨H, T⟩ := fr_pure hpsl
  have e2 : frz 20 ⟨H, T⟩ (.fn 36 [.ptr q 0]) = ⟨H.set q (.cells true [.int i]), T⟩ := by
    rw [fr_fn, if_neg (by simp [pvs_cons, pv_ptr])]
    simp only [List.foldl_cons, List.foldl_nil, fr_ptr, hq, fz_cells hq]
    exact fr_pure pv_v
  simp only [List.foldl_cons, List.foldl_nil, e1, e2]
theorem up_new {kk : KK} {k x : AV} : ∀ {es : List (AV × AV)}, lookA kk k es = some none → upA kk k x es = some (es ++ [(k, x)])
  | [], _ => rfl
  | (k', y) :: es, h => by
    rw [lookA] at h
    rw [upA]
    split at h
    · cases h
    · simp only [up_new h, Option.map_some, List.cons_append]
    · cases h
theorem look_app {kk : KK} {k k' x : AV} {b : Bool} (hb : keyEqM kk k k' = some b) : ∀ {es : List (AV × AV)} {r : Option AV}, lookA kk k es = some r → lookA kk k (es ++ [(k', x)]) = some (match r with | some y => some y | none => if b = true then some x else none)
  | [], r, h => by
    rw [lookA] at h
    simp only [Option.some.injEq] at h; subst h
    rw [List.nil_append, lookA, hb]
    cases b <;> rfl
  | (k'', y) :: es, r, h => by
    rw [lookA] at h
    rw [List.cons_append, lookA]
    split at h
    · simp only [Option.some.injEq] at h; subst h; rfl
    · exact look_app hb h
    · cases h
theorem keyEq_str (a b : List UInt8) : keyEqM (.sc true) (.str (strOf a)) (.str (strOf b)) = some (decide (a = b)) := by
  show some (strOf a == strOf b) = _
  rw [str_beq]
  congr 1
  by_cases h : a = b
  · subst h; simp
  · have : ¬ strOf a = strOf b := fun e => h (strOf_inj e)
    simp [h, this]
def MapB (es : List (AV × AV)) (tab : List (List UInt8)) : Prop := ∀ key : List UInt8, lookA (.sc true) (.str (strOf key)) es = some (if key ∈ tab then some (.bool true) else none)
theorem mapB_nil : MapB [] [] := fun key => by simp [lookA]
theorem mapB_add {es : List (AV × AV)} {tab : List (List UInt8)} (h : MapB es tab) {key : List UInt8} (hk : key ∉ tab) : upA (.sc true) (.str (strOf key)) (.bool true) es = some (es ++ [(.str (strOf key), .bool true)]) ∧ MapB (es ++ [(.str (strOf key), .bool true)]) (tab ++ [key]) := by
  have h0 := h key
  rw [if_neg hk] at h0
  refine ⟨up_new h0, fun k => ?_⟩
  rw [look_app (keyEq_str k key) (h k)]
  by_cases e : k = key
  · subst e; simp [hk]
  · by_cases h1 : k ∈ tab
    · simp [h1]
    · simp [h1, e]
theorem chk_cons (P l : List Nd) (n : Nd) : chkN P (n :: l) = if n.formed = true then if n.inR P.length = true then if n ∈ P then 8 else chkN (P ++ [n]) l else 2 else 3 := by rw [chkN]
theorem check_ret {N : List Nd} {a : AV} (h : GIs N a) : Out md pfs 12 [a] (· = .int (checkN N)) fun _ => False := by
  obtain ⟨al, t, rfl, ht, hl, hL⟩ := h
  have hln := hL.len
  have hall := hL.all ndAgg
  refine out_of pf12_is (Nat.le_of_ble_eq_true rfl) ?_
  cases c1 : decide ((al.length : Int) > 65536)
  case true =>
    simp only [pf12, ↓wpre, wset, wcore, wext, ne_eq, if_true, if_false, exists_eq_left', true_implies, false_implies, exists_const, exists_eq_right, binA, intA, loadA, storeA, pickC, setAt, mapO, argsE, X.isC, resA, oneA, unA, boundA, eqiA, eqsA, fillA, fillE, ASt.fz, strA, simprocAttr, c1]
    simp only [decide_eq_true_eq] at c1
    rw [checkN, if_neg (by omega)]
  have hck : checkN N = chkN [] N := by
    simp only [decide_eq_false_iff_not] at c1
    rw [checkN, if_pos (by omega)]
  rw [hck]
  simp only [pf12, ↓wpre, wset, wcore, wext, ne_eq, if_true, if_false, exists_eq_left', true_implies, false_implies, exists_const, exists_eq_right, binA, intA, loadA, storeA, pickC, setAt, mapO, argsE, X.isC, resA, oneA, unA, boundA, eqiA, eqsA, fillA, fillE, ASt.fz, strA, simprocAttr, c1]
  refine W_loopE (fun j => al.length - j) (fun j E H T => (∃ es G, H = .cells false [.sl al t] :: .map es :: G ∧ MapB es ((N.take j).map keyX)) ∧ E 1 = .ptr 0 0 ∧ E 3 = .mp 1 ∧ E 13 = .sl al t ∧ E 14 = .int al.length ∧ E 15 = .int (j : Nat) ∧ j ≤ al.length ∧ (∀ n ∈ N.take j, n.formed = true ∧ ∀ x ∈ n.kids, in64 x) ∧ chkN (N.take j) (N.drop j) = chkN [] N) ?_ 0 ⟨⟨[], [], rfl, by simpa using mapB_nil⟩, rfl, rfl, rfl, rfl, rfl, Nat.zero_le _, by simp, by simp⟩
  rintro j E H T ⟨⟨es, G, rfl, hM⟩, e1, e3, e13, e14, e15, hj, hg, hc⟩
  rcases Nat.lt_or_ge j al.length with hlt | hge
  · have hdec : decide ((j : Int) < al.length) = true := by simpa using hlt
    obtain ⟨n, c, d0, d1, d3, d4, d5, d6, d7, d8⟩ := hL.get ndAgg hlt
    rw [d1, chk_cons, List.length_take, Nat.min_eq_left (by omega)] at hc
    have hpn : pureAVs [AV.agg c] = true := by simp [pvs_cons, pvs_nil, ndPure d8]
    obtain ⟨_, rfl, c34⟩ := (gformed_ret d8).call rfl hpn
    have d8' := d8
    obtain ⟨u1, u2, las, hcc, b1, b2, b3, b4, b5, b6, b7, b8, b9⟩ := d8
    simp only [AV.agg.injEq] at hcc; subst hcc
    generalize hAB : (AObj.cells false [AV.int n.k, AV.int n.i, AV.str n.n, AV.sl las u1, AV.sl (ints n.kids) u2]) = NB at *
    have c35 := range_call b2 b7 (H := .cells false [.sl al t] :: .map es :: (G ++ [.cells false [.int (j : Nat)], NB])) (T := T) (q := G.length + 2) (i := (j : Nat)) (by simp)
    subst hAB
    simp only [List.set_cons_succ, app_set_len, List.set_cons_zero] at c35
    have hra := range_any n j
    rw [hra] at c35
    cases hf : n.formed
    case false =>
      rw [hf] at c34
      simp only [↓wpre, wset, wcore, wext, ne_eq, if_true, if_false, exists_eq_left', true_implies, false_implies, exists_const, exists_eq_right, binA, intA, loadA, storeA, pickC, setAt, mapO, argsE, X.isC, resA, oneA, unA, boundA, eqiA, eqsA, fillA, fillE, ASt.fz, strA, simprocAttr, List.length_append, List.append_assoc, app_get_len, app_get_add, app_set_len, app_set_add, e1, e3, e13, e14, e15, hdec, d4, d5, d6, hall, c34, List.set_cons_succ]
      rw [if_neg (by rw [hf]; simp)] at hc
      rw [← hc]
    rw [hf] at c34
    rw [if_pos hf] at hc
    cases hr : n.inR j
    case false =>
      rw [hr] at c35
      simp only [↓wpre, wset, wcore, wext, ne_eq, if_true, if_false, exists_eq_left', true_implies, false_implies, exists_const, exists_eq_right, binA, intA, loadA, storeA, pickC, setAt, mapO, argsE, X.isC, resA, oneA, unA, boundA, eqiA, eqsA, fillA, fillE, ASt.fz, strA, simprocAttr, List.length_append, List.append_assoc, app_get_len, app_get_add, app_set_len, app_set_add, e1, e3, e13, e14, e15, hdec, d4, d5, d6, hall, c34, c35, List.set_cons_succ]
      rw [if_neg (by rw [hr]; simp)] at hc
      rw [← hc]
    rw [hr] at c35
    rw [if_pos hr] at hc
    obtain ⟨_, rfl, c37⟩ := (key_ret d8' (key_len hf b9)).call rfl hpn
    have hmem : keyX n ∈ (N.take j).map keyX ↔ n ∈ N.take j := by
      rw [List.mem_map]
      constructor
      · rintro ⟨x, h1, h2⟩
        obtain ⟨g1, g2⟩ := hg x h1
        rw [← key_inj g1 hf g2 b9 h2]; exact h1
      · intro h; exact ⟨n, h, rfl⟩
    have hlook := hM (keyX n)
    by_cases hin : n ∈ N.take j
    · rw [if_pos (hmem.2 hin)] at hlook
      simp only [↓wpre, wset, wcore, wext, ne_eq, if_true, if_false, exists_eq_left', true_implies, false_implies, exists_const, exists_eq_right, binA, intA, loadA, storeA, pickC, setAt, mapO, argsE, X.isC, resA, oneA, unA, boundA, eqiA, eqsA, fillA, fillE, ASt.fz, strA, simprocAttr, List.length_append, List.append_assoc, app_get_len, app_get_add, app_set_len, app_set_add, e1, e3, e13, e14, e15, hdec, d4, d5, d6, hall, c34, c35, c37, List.set_cons_succ, keyOKM, keyOK, hlook]
      rw [if_pos hin] at hc
      rw [← hc]
    · have hnot := fun h => hin (hmem.1 h)
      rw [if_neg hnot] at hlook
      obtain ⟨hu, hM'⟩ := mapB_add hM hnot
      rw [if_neg hin] at hc
      simp only [↓wpre, wset, wcore, wext, ne_eq, if_true, if_false, exists_eq_left', true_implies, false_implies, exists_const, exists_eq_right, binA, intA, loadA, storeA, pickC, setAt, mapO, argsE, X.isC, resA, oneA, unA, boundA, eqiA, eqsA, fillA, fillE, ASt.fz, strA, simprocAttr, List.length_append, List.append_assoc, app_get_len, app_get_add, app_set_len, app_set_add, e1, e3, e13, e14, e15, hdec, d4, d5, d6, hall, c34, c35, c37, List.set_cons_succ, keyOKM, keyOK, hlook, hu]
      have htk : N.take (j + 1) = N.take j ++ [n] := by rw [List.take_add_one, d0]; rfl
      exact EQ_in ⟨j + 1, by omega, ⟨_, _, rfl, by rw [htk, List.map_append]; exact hM'⟩, e1, e3, e13, e14, next_ixv (by omega), by omega, by
        rw [htk]; intro x hx
        rcases List.mem_append.1 hx with hx | hx
        · exact hg x hx
        · rw [List.mem_singleton.1 hx]; exact ⟨hf, b9⟩, by rw [htk]; exact hc⟩
  · have hdec : decide ((j : Int) < al.length) = false := by simpa using hge
    simp only [↓wpre, wset, wcore, wext, ne_eq, if_true, if_false, exists_eq_left', true_implies, false_implies, exists_const, exists_eq_right, binA, intA, loadA, storeA, pickC, setAt, mapO, argsE, X.isC, resA, oneA, unA, boundA, eqiA, eqsA, fillA, fillE, ASt.fz, strA, simprocAttr, e1, e3, e13, e14, e15, hdec]
    rw [List.drop_eq_nil_of_le (by omega), chkN] at hc
    rw [← hc]
theorem rsame_ret {n m : Nd} {a b : AV} (h : n.Is a) (h' : m.Is b) : Out md pfs 39 [a, b] (· = .bool (decide (n = m))) fun _ => False := by
  obtain ⟨k, i, nm, ls, kids⟩ := n
  obtain ⟨k', i', nm', ls', kids'⟩ := m
  obtain ⟨t1, t2, las, rfl, g1, g2, g3, g4, g5, g6, g7, g8, g9⟩ := h
  obtain ⟨u1, u2, lbs, rfl, q1, q2, q3, q4, q5, q6, q7, q8, q9⟩ := h'
  simp only at g3 g4 g5 g6 g7 g8 g9 q3 q4 q5 q6 q7 q8 q9
  have hia := ints_all kids
  have hib := ints_all kids'
  obtain ⟨_, rfl, cl⟩ := (lsames_ret g8 q8 g1 q1 g6).call rfl (by simp [pvs_cons, pvs_nil, pv_sl, lvsPure g8, lvsPure q8, g1, q1])
  refine out_of pf39_is (Nat.le_of_ble_eq_true rfl) ?_
  cases b1 : (k != k')
  case true =>
    simp only [pf39, ↓wpre, wset, wcore, wext, ne_eq, if_true, if_false, exists_eq_left', true_implies, false_implies, exists_const, exists_eq_right, binA, intA, loadA, storeA, pickC, setAt, mapO, argsE, X.isC, resA, oneA, unA, boundA, eqiA, eqsA, fillA, fillE, ASt.fz, strA, simprocAttr, b1]
    have : k ≠ k' := by simpa using b1
    simp [this]
  have hk : k = k' := by simpa using b1
  subst hk
  cases b2 : (i != i')
  case true =>
    simp only [pf39, ↓wpre, wset, wcore, wext, ne_eq, if_true, if_false, exists_eq_left', true_implies, false_implies, exists_const, exists_eq_right, binA, intA, loadA, storeA, pickC, setAt, mapO, argsE, X.isC, resA, oneA, unA, boundA, eqiA, eqsA, fillA, fillE, ASt.fz, strA, simprocAttr, b1, b2]
    have : i ≠ i' := by simpa using b2
    simp [this]
  have hi : i = i' := by simpa using b2
  subst hi
  cases b3 : (nm.toList == nm'.toList)
  case false =>
    simp only [pf39, ↓wpre, wset, wcore, wext, ne_eq, if_true, if_false, exists_eq_left', true_implies, false_implies, exists_const, exists_eq_right, binA, intA, loadA, storeA, pickC, setAt, mapO, argsE, X.isC, resA, oneA, unA, boundA, eqiA, eqsA, fillA, fillE, ASt.fz, strA, simprocAttr, b1, b2, b3]
    have : nm ≠ nm' := by rintro rfl; simp at b3
    simp [this]
  have hn : nm = nm' := toList_inj (by simpa using b3)
  subst hn
  cases b4 : decide (ls = ls')
  case false =>
    simp only [pf39, ↓wpre, wset, wcore, wext, ne_eq, if_true, if_false, exists_eq_left', true_implies, false_implies, exists_const, exists_eq_right, binA, intA, loadA, storeA, pickC, setAt, mapO, argsE, X.isC, resA, oneA, unA, boundA, eqiA, eqsA, fillA, fillE, ASt.fz, strA, simprocAttr, b1, b2, b3, cl, b4]
    have : ls ≠ ls' := by simpa using b4
    simp [this]
  have hls : ls = ls' := by simpa using b4
  subst hls
  cases b5 : ((kids.length : Int) != kids'.length)
  case true =>
    simp only [pf39, ↓wpre, wset, wcore, wext, ne_eq, if_true, if_false, exists_eq_left', true_implies, false_implies, exists_const, exists_eq_right, binA, intA, loadA, storeA, pickC, setAt, mapO, argsE, X.isC, resA, oneA, unA, boundA, eqiA, eqsA, fillA, fillE, ASt.fz, strA, simprocAttr, b1, b2, b3, cl, b4, b5, ints_len]
    have : kids ≠ kids' := by rintro rfl; simp at b5
    simp [this]
  have hlen : kids'.length = kids.length := by simp at b5; omega
  simp only [pf39, ↓wpre, wset, wcore, wext, ne_eq, if_true, if_false, exists_eq_left', true_implies, false_implies, exists_const, exists_eq_right, binA, intA, loadA, storeA, pickC, setAt, mapO, argsE, X.isC, resA, oneA, unA, boundA, eqiA, eqsA, fillA, fillE, ASt.fz, strA, simprocAttr, b1, b2, b3, cl, b4, b5, ints_len]
  refine W_loopE (fun j => kids.length - j) (fun j E H T => (∃ G, H = .cells false [.int k, .int i, .str nm, .sl las t1, .sl (ints kids) t2] :: .cells false [.int k, .int i, .str nm, .sl lbs u1, .sl (ints kids') u2] :: G) ∧ E 2 = .ptr 0 0 ∧ E 3 = .ptr 1 0 ∧ E 5 = .int (j : Nat) ∧ j ≤ kids.length ∧ kids.take j = kids'.take j) ?_ 0 ⟨⟨_, rfl⟩, rfl, rfl, rfl, Nat.zero_le _, rfl⟩
  rintro j E H T ⟨⟨G, rfl⟩, e2, e3, e5, hj, hp⟩
  rcases Nat.lt_or_ge j kids.length with hlt | hge
  · have hdec : decide ((j : Int) < kids.length) = true := by simpa using hlt
    obtain ⟨x, d0, d1, d2⟩ := ints_get hlt
    obtain ⟨y, f0, f1, f2⟩ := ints_get (l := kids') (i := j) (by omega)
    cases hb : (x != y)
    · have hxy : x = y := by simpa using hb
      subst hxy
      simp only [↓wpre, wset, wcore, wext, ne_eq, if_true, if_false, exists_eq_left', true_implies, false_implies, exists_const, exists_eq_right, binA, intA, loadA, storeA, pickC, setAt, mapO, argsE, X.isC, resA, oneA, unA, boundA, eqiA, eqsA, fillA, fillE, ASt.fz, strA, simprocAttr, List.length_append, List.append_assoc, app_get_len, app_get_add, app_set_len, app_set_add, e2, e3, e5, ints_len, hdec, d2, f2, hia, hib, hb]
      exact EQ_in ⟨j + 1, by omega, ⟨_, rfl⟩, e2, e3, next_ixv (by omega), by omega, take_step hp d0 f0⟩
    · have hxy : x ≠ y := by simpa using hb
      simp only [↓wpre, wset, wcore, wext, ne_eq, if_true, if_false, exists_eq_left', true_implies, false_implies, exists_const, exists_eq_right, binA, intA, loadA, storeA, pickC, setAt, mapO, argsE, X.isC, resA, oneA, unA, boundA, eqiA, eqsA, fillA, fillE, ASt.fz, strA, simprocAttr, List.length_append, List.append_assoc, app_get_len, app_get_add, app_set_len, app_set_add, e2, e3, e5, ints_len, hdec, d2, f2, hia, hib, hb]
      have := list_ne d0 f0 hxy
      simp [this]
  · have hdec : decide ((j : Int) < kids.length) = false := by simpa using hge
    rw [List.take_of_length_le (by omega), List.take_of_length_le (by omega)] at hp
    simp only [↓wpre, wset, wcore, wext, ne_eq, if_true, if_false, exists_eq_left', true_implies, false_implies, exists_const, exists_eq_right, binA, intA, loadA, storeA, pickC, setAt, mapO, argsE, X.isC, resA, oneA, unA, boundA, eqiA, eqsA, fillA, fillE, ASt.fz, strA, simprocAttr, List.length_append, List.append_assoc, app_get_len, app_get_add, app_set_len, app_set_add, e2, e3, e5, ints_len, hdec]
    simp [hp]
theorem zero_right : Tm.zero.right = true := by decide
theorem allR_tm (n : Nd) : n.tm.allR = n.formed := by
  have : allRL (n.kids.map fun _ => Tm.mk 0 0 ⟨#[]⟩ [] []) = true := by
    rw [allRL_iff]
    intro t ht
    obtain ⟨_, _, rfl⟩ := List.mem_map.1 ht
    rw [Tm.allR, show (Tm.mk 0 0 ⟨#[]⟩ [] []).right = true from zero_right]; rfl
  unfold Nd.formed Nd.tm
  rw [Tm.allR, this, Bool.and_true]
end Go.Proofs.Eng
