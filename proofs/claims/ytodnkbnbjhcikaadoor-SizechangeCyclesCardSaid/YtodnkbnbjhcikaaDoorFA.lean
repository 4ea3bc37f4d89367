/- Texts of numbers tell the numbers; maps of texts; the calls that are found, in the store. No conditions beyond those in the theorems. -/
import Derived.Test.YtodnkbnbjhcikaaDoorPfF
set_option linter.all false
set_option linter.deprecated false
set_option linter.unnecessarySimpa false
set_option linter.unusedVariables false
set_option linter.unusedSimpArgs false
set_option linter.defProp false
namespace Go.Proofs.Eng
open Go Go.Proofs
set_option maxRecDepth 100000
set_option maxHeartbeats 16000000
theorem digF_ge : ∀ (f u : Nat), ∀ c ∈ digF f u, 48 ≤ c.toNat
  | 0, _, c, h => by simp [digF] at h
  | f + 1, u, c, h => by
    rw [digF] at h
    have key : ∀ d, d < 10 → (UInt8.ofNat (48 + d)).toNat = 48 + d := fun d hd => by
      rw [UInt8.toNat_ofNat']; omega
    split at h
    · simp only [List.mem_singleton] at h
      rw [h, key _ ‹_›]; omega
    · rcases List.mem_append.1 h with h | h
      · exact digF_ge f (u / 10) c h
      · simp only [List.mem_singleton] at h
        rw [h, key _ (by omega)]; omega
def valU (l : List UInt8) : Nat := l.foldl (fun a c => 10 * a + (c.toNat - 48)) 0
theorem valU_digF : ∀ (f u : Nat), u < 10 ^ (f + 1) → valU (digF (f + 1) u) = u
  | 0, u, h => by
    have h : u < 10 := by simpa using h
    have key : (UInt8.ofNat (48 + u)).toNat = 48 + u := by rw [UInt8.toNat_ofNat']; omega
    simp only [digF, h, if_true, valU, List.foldl_cons, List.foldl_nil, key]; omega
  | f + 1, u, h => by
    rw [digF]
    split
    · have key : (UInt8.ofNat (48 + u)).toNat = 48 + u := by rw [UInt8.toNat_ofNat']; omega
      simp only [valU, List.foldl_cons, List.foldl_nil, key]; omega
    · have key : (UInt8.ofNat (48 + u % 10)).toNat = 48 + u % 10 := by rw [UInt8.toNat_ofNat']; omega
      have ih := valU_digF f (u / 10) (by rw [Nat.pow_succ] at h; omega)
      unfold valU at ih ⊢
      rw [List.foldl_append, ih]
      simp only [List.foldl_cons, List.foldl_nil, key]; omega
def valN : List UInt8 → Int
  | [] => 0
  | c :: l => if c = 45 then -(valU l : Nat) else (valU (c :: l) : Nat)
theorem valN_numF {n : Int} (h : in64 n) : valN (numF n) = n := by
  unfold in64 at h
  unfold numF
  split
  · rw [valN, if_pos rfl, valU_digF 19 _ (by omega)]; omega
  · have hv := valU_digF 19 n.toNat (by omega)
    have hg := digF_ge 20 n.toNat
    generalize digF (19 + 1) n.toNat = L at *
    cases L with
    | nil => rw [valN]; simp [valU] at hv; omega
    | cons c L =>
      have := hg c (by simp)
      rw [valN, if_neg (fun e => by rw [e] at this; exact absurd this (by decide)), hv]; omega
theorem numF_32 {n : Int} : ∀ c ∈ numF n, c ≠ 32 := by
  intro c hc e
  subst e
  unfold numF at hc
  split at hc
  · rcases List.mem_cons.1 hc with h | h
    · exact absurd h (by decide)
    · exact absurd (digF_ge _ _ _ h) (by decide)
  · exact absurd (digF_ge _ _ _ hc) (by decide)
theorem split_at {a b x y : List UInt8} (ha : ∀ c ∈ a, c ≠ 32) (hb : ∀ c ∈ b, c ≠ 32) (h : a ++ 32 :: x = b ++ 32 :: y) : a = b ∧ x = y := by
  induction a generalizing b with
  | nil =>
    cases b with
    | nil => simpa using h
    | cons c b => simp at h; exact absurd h.1.symm (hb c (by simp))
  | cons c a ih =>
    cases b with
    | nil => simp at h; exact absurd h.1 (ha c (by simp))
    | cons d b =>
      simp only [List.cons_append, List.cons.injEq] at h
      obtain ⟨e1, e2⟩ := ih (fun c hc => ha c (by simp [hc])) (fun c hc => hb c (by simp [hc])) h.2
      exact ⟨by rw [h.1, e1], e2⟩
theorem textOf_cons {n : Int} {l : List Int} : textOf (n :: l) = numF n ++ 32 :: textOf l := by simp [textOf]
theorem textOf_inj : ∀ {a b : List Int}, (∀ n ∈ a, in64 n) → (∀ n ∈ b, in64 n) → textOf a = textOf b → a = b
  | [], [], _, _, _ => rfl
  | [], n :: b, _, _, h => by rw [textOf_cons] at h; simp [textOf] at h
  | n :: a, [], _, _, h => by rw [textOf_cons] at h; simp [textOf] at h
  | n :: a, m :: b, ha, hb, h => by
    rw [textOf_cons, textOf_cons] at h
    obtain ⟨e1, e2⟩ := split_at numF_32 numF_32 h
    rw [textOf_inj (fun k hk => ha k (by simp [hk])) (fun k hk => hb k (by simp [hk])) e2]
    congr 1
    rw [← valN_numF (ha n (by simp)), e1, valN_numF (hb m (by simp))]
theorem strL_inj {a b : List UInt8} (h : strL a = strL b) : a = b := by
  have := congrArg (fun x : ByteArray => x.data.toList) h
  simpa [strL] using this
def MapB (es : List (AV × AV)) (tab : List (List UInt8)) : Prop := ∀ key : List UInt8, lookA (.str (strL key)) es = some (if key ∈ tab then some (.bool true) else none)
theorem mapB_nil : MapB [] [] := fun key => by simp [lookA]
theorem up_new {k x : AV} : ∀ {es : List (AV × AV)}, lookA k es = some none → upA k x es = some (es ++ [(k, x)])
  | [], _ => rfl
  | (k', y) :: es, h => by
    rw [lookA] at h
    rw [upA]
    split at h
    · cases h
    · simp only [up_new h, Option.map_some, List.cons_append]
    · cases h
theorem look_app {k k' x : AV} {b : Bool} (hb : keyEq k k' = some b) : ∀ {es : List (AV × AV)} {r : Option AV}, lookA k es = some r → lookA k (es ++ [(k', x)]) = some (match r with | some y => some y | none => if b = true then some x else none)
  | [], r, h => by
    simp only [lookA, Option.some.injEq] at h; subst h
    rw [List.nil_append, lookA, hb]
    cases b <;> simp [lookA]
  | (k2, y) :: es, r, h => by
    rw [lookA] at h
    rw [List.cons_append, lookA]
    split at h
    · simp only [Option.some.injEq] at h; subst h; rfl
    · exact look_app hb h
    · cases h
theorem mapB_add {es : List (AV × AV)} {tab : List (List UInt8)} (h : MapB es tab) {key : List UInt8} (hk : key ∉ tab) : upA (.str (strL key)) (.bool true) es = some (es ++ [(.str (strL key), .bool true)]) ∧ MapB (es ++ [(.str (strL key), .bool true)]) (tab ++ [key]) := by
  refine ⟨up_new (by rw [h, if_neg hk]), fun k2 => ?_⟩
  have hb : keyEq (.str (strL k2)) (.str (strL key)) = some (decide (k2 = key)) := by
    simp only [keyEq, str_beq, Option.some.injEq, decide_eq_decide]
    exact ⟨strL_inj, fun e => by rw [e]⟩
  rw [look_app hb (h k2)]
  by_cases h2 : k2 ∈ tab
  · rw [if_pos h2, if_pos (List.mem_append_left _ h2)]
  · rw [if_neg h2]
    by_cases h3 : k2 = key
    · rw [h3, if_pos (by simp)]; simp
    · rw [if_neg (show k2 ∉ tab ++ [key] by simp [h2, h3])]; simp [h3]
def FoundS (q : List Cl) (H : List AObj) (T : List Nat) : Prop := ∃ al t es, H[0]? = some (.map es) ∧ H[1]? = some (.cells false [.mp 0, .sl al t]) ∧ LIs ClIs q al ∧ App T al t ∧ MapB es (q.map fun c => textOf (entL c))
def Rest2 (H H' : List AObj) : Prop := H.length ≤ H'.length ∧ ∀ i o, 2 ≤ i → H[i]? = some o → H'[i]? = some o
theorem Rest2.refl (H : List AObj) : Rest2 H H := ⟨Nat.le_refl _, fun _ _ _ h => h⟩
theorem Rest2.trans {A B C : List AObj} (h : Rest2 A B) (k : Rest2 B C) : Rest2 A C := ⟨Nat.le_trans h.1 k.1, fun i o hi ho => k.2 i o hi (h.2 i o hi ho)⟩
end Go.Proofs.Eng
namespace Go.Proofs.Eng.F
open Go Go.Proofs Go.Proofs.Eng
theorem key_ret {c : Cl} {a : AV} (h : ClIs c a) (hs : Sm c) : Out md pfs 58 [a] (· = .str (strL (textOf (entL c)))) fun _ => False := by
  have hv : keyO [a] ⟨[], []⟩ = some (.str (strL (textOf (entL c))), ⟨[], []⟩) := by simp only [keyO, clOf_is h hs]; rfl
  exact ⟨_, _, _, run_ora (f := 58) (pf := ⟨0, [], .ora keyO⟩) (o := keyO) (by unfold pfs; rw [if_pos rfl]) rfl hv, by simp only [Outc.purify]; rw [purify_pure rfl]; rfl, rfl⟩
theorem add_sh {q : List Cl} {c : Cl} {a : AV} {H : List AObj} {T : List Nat} (hK : FoundS q H T) (hc : ClIs c a) (hs : Sm c) (hin : ∀ x ∈ q, ∀ n ∈ entL x, in64 n) (hinj : ∀ x ∈ q, entL x = entL c → x = c) (hl : q.length ≤ 1000000) :
    Sh md pfs 43 [.ptr 1 0, a] ⟨H, T⟩ (fun _ s' => ∃ H' T', s' = ⟨H', T'⟩ ∧ FoundS (addQ q c) H' T' ∧ Rest2 H H') fun _ _ => False := by
  obtain ⟨al, t, es, h0, h1, hL, hA, hM⟩ := hK
  have hkey := key_ret hc hs
  have hci := ent_in hc
  obtain ⟨bl, u, rfl, k1, k2, k3, k4, k5⟩ := hc.of
  obtain ⟨_, rfl, c58⟩ := hkey.call rfl (by simp [pvs_cons, pvs_nil, hc.pure])
  have hln := hL.len
  have l0 := lt_of_get h0
  have l1 := lt_of_get h1
  refine sh_of pf43_is (Nat.le_of_ble_eq_true rfl) ?_
  have hm := hM (textOf (entL c))
  have hiff : (textOf (entL c) ∈ q.map fun c => textOf (entL c)) ↔ c ∈ q := by
    rw [List.mem_map]
    constructor
    · rintro ⟨x, h1, h2⟩
      rw [← hinj x h1 (textOf_inj (hin x h1) hci h2)]; exact h1
    · intro h; exact ⟨c, h, rfl⟩
  by_cases hh : c ∈ q
  · rw [if_pos (hiff.2 hh)] at hm
    simp only [pf43, ↓wpre, wset, wcore, wext, ne_eq, if_true, if_false, exists_eq_left', true_implies, false_implies, exists_const, exists_eq_right, binA, intA, loadA, storeA, pickC, setAt, mapO, argsE, X.isC, resA, oneA, unA, boundA, eqiA, eqsA, fillA, fillE, ASt.fz, strA, simprocAttr, List.length_append, List.append_assoc, app_get_len, app_get_add, app_set_len, app_set_add, app_get_of h0, app_get_of h1, c58, hm, keyOK]
    refine ⟨_, _, rfl, ?_, by simp, fun i o _ h => app_get_of h _⟩
    rw [addQ, if_pos hh]
    exact ⟨al, t, es, app_get_of h0 _, app_get_of h1 _, hL, hA, hM⟩
  · have hnot := fun h => hh (hiff.1 h)
    rw [if_neg hnot] at hm
    obtain ⟨hu, hM'⟩ := mapB_add hM hnot
    obtain ⟨t', T', ap, hA', _⟩ := app_one (es := 3) (x := .agg [.int c.f, .int c.t, .sl bl u]) hA (by unfold capB; omega) (hL.all clAgg) rfl rfl
    generalize hes : es ++ [(AV.str (strL (textOf (entL c))), AV.bool true)] = es' at *
    generalize hB : AObj.cells false [AV.int c.f, AV.int c.t, .sl bl u] = B at *
    have j0 : ((H ++ [B]).set 0 (.map es'))[1]? = some (.cells false [.mp 0, .sl al t]) := by
      rw [List.getElem?_set, if_neg (by omega)]; exact app_get_of h1 _
    have j3 : ((H ++ [B]).set 0 (.map es'))[H.length]? = some B := by
      rw [List.getElem?_set, if_neg (by omega), List.getElem?_append_right (Nat.le_refl _), Nat.sub_self]; rfl
    subst hB
    simp only [pf43, ↓wpre, wset, wcore, wext, ne_eq, if_true, if_false, exists_eq_left', true_implies, false_implies, exists_const, exists_eq_right, binA, intA, loadA, storeA, pickC, setAt, mapO, argsE, X.isC, resA, oneA, unA, boundA, eqiA, eqsA, fillA, fillE, ASt.fz, strA, simprocAttr, app_get_len, app_get_of h0, app_get_of h1, c58, hm, keyOK, hu, j0, j3, ap]
    refine ⟨_, _, rfl, ?_, by simp, fun i o hi h => ?_⟩
    · rw [addQ, if_neg hh]
      refine ⟨_, t', es', ?_, ?_, hL.append (.one hc), hA', by simpa using hM'⟩
      · rw [List.getElem?_set, if_neg (by omega), List.getElem?_set, if_pos rfl, if_pos (by simp)]
      · rw [List.getElem?_set, if_pos rfl, if_pos (by simp; omega)]
    · rw [List.getElem?_set, if_neg (by omega), List.getElem?_set, if_neg (by omega)]; exact app_get_of h _
end Go.Proofs.Eng.F
