/- The program keeps a row. No conditions beyond those in the theorems. -/
import Derived.Test.YtglembbmmnakaaaDoorF10
import Derived.Test.YtglembbmmnakaaaDoorF11
import Derived.Test.YtglembbmmnakaaaDoorG5
set_option linter.all false
set_option linter.deprecated false
set_option linter.unnecessarySimpa false
set_option linter.unusedVariables false
set_option linter.unusedSimpArgs false
set_option linter.defProp false
namespace Go.Proofs.Eng
open Go Go.Proofs
set_option maxRecDepth 100000
set_option maxHeartbeats 16000000
def strL (l : List UInt8) : ByteArray := ⟨l.toArray⟩
theorem strL_inj {a b : List UInt8} (h : strL a = strL b) : a = b := by
  have := congrArg (fun x : ByteArray => x.data.toList) h
  simpa [strL] using this
theorem intOf_int {n : Int} (h : in64 n) : intOf (.int n) = some n := by
  unfold in64 at h
  exact if_pos (by omega)
theorem intsOf {l : List Int} (h : ∀ n ∈ l, in64 n) : mapO intOf (ints l) = some l := by
  induction l with
  | nil => rfl
  | cons n l ih =>
    have := ih fun m hm => h m (by simp [hm])
    simp only [ints] at this ⊢
    simp only [List.map_cons, mapO, this, intOf_int (h n (by simp))]
theorem text_ret {l : List Int} {t : Tl} (h : ∀ n ∈ l, in64 n) (hl : l.length ≤ 1073741824) : Out md pfs 43 [.sl (ints l) t] (· = .str (strL (textOf l))) fun _ => False := by
  have hv : textO [.sl (ints l) t] = some (.str (strL (textOf l))) := by simp only [textO, intsOf h, hl, if_true, strL]
  exact ⟨_, _, _, run_ora (f := 43) (pf := ⟨0, [], .ora textO⟩) (o := textO) (by unfold pfs; rw [if_pos rfl]) rfl hv _, by simp only [Outc.purify]; rw [purify_pure rfl]; rfl, rfl⟩
/-- A map that has such texts. -/
def MapB (es : List (AV × AV)) (tab : List (List UInt8)) : Prop := ∀ key : List UInt8, lookA (.str (strL key)) es = some (if key ∈ tab then some (.bool true) else none)
theorem mapB_nil : MapB [] [] := fun key => by simp [lookA]
theorem up_new {k x : AV} : ∀ {es : List (AV × AV)}, lookA k es = some none → upA k x es = some (es ++ [(k, x)])
  | [], _ => rfl
  | (k', y) :: es, h => by
    rw [lookA] at h
    rw [upA]
    split at h
    · cases h
    · simp only [up_new h, Option.map_some, List.cons_append]
    · cases h
theorem look_app {k k' x : AV} {b : Bool} (hb : keyEq k k' = some b) : ∀ {es : List (AV × AV)} {r : Option AV}, lookA k es = some r → lookA k (es ++ [(k', x)]) = some (match r with | some y => some y | none => if b = true then some x else none)
  | [], r, h => by
    simp only [lookA, Option.some.injEq] at h; subst h
    rw [List.nil_append, lookA, hb]
    cases b <;> simp [lookA]
  | (k2, y) :: es, r, h => by
    rw [lookA] at h
    rw [List.cons_append, lookA]
    split at h
    · simp only [Option.some.injEq] at h; subst h; rfl
    · exact look_app hb h
    · cases h
theorem mapB_add {es : List (AV × AV)} {tab : List (List UInt8)} (h : MapB es tab) {key : List UInt8} (hk : key ∉ tab) : upA (.str (strL key)) (.bool true) es = some (es ++ [(.str (strL key), .bool true)]) ∧ MapB (es ++ [(.str (strL key), .bool true)]) (tab ++ [key]) := by
  refine ⟨up_new (by rw [h, if_neg hk]), fun k2 => ?_⟩
  have hb : keyEq (.str (strL k2)) (.str (strL key)) = some (decide (k2 = key)) := by
    simp only [keyEq, str_beq, Option.some.injEq, decide_eq_decide]
    exact ⟨strL_inj, fun e => by rw [e]⟩
  rw [look_app hb (h k2)]
  by_cases h2 : k2 ∈ tab
  · rw [if_pos h2, if_pos (List.mem_append_left _ h2)]
  · rw [if_neg h2]
    by_cases h3 : k2 = key
    · rw [h3, if_pos (by simp)]; simp
    · rw [if_neg (show k2 ∉ tab ++ [key] by simp [h2, h3])]; simp [h3]
/-- The rows kept, in the store. -/
def KeptS (acc : List Rw) (H : List AObj) (T : List Nat) : Prop := ∃ al t es, H[0]? = some (.cells false [.sl al t]) ∧ H[1]? = some (.map es) ∧ H[2]? = some (.cells false [.mp 1]) ∧ LIs RwIs acc al ∧ App T al t ∧ MapB es (acc.map fun r => textOf r.A)
/-- Other blocks are as they were. -/
def Rest3 (H H' : List AObj) : Prop := H.length ≤ H'.length ∧ ∀ i o, 3 ≤ i → H[i]? = some o → H'[i]? = some o
theorem has_text {l : List Rw} {A : List Int} (hl : ∀ r ∈ l, ∀ n ∈ r.A, in64 n) (hA : ∀ n ∈ A, in64 n) : (textOf A ∈ l.map fun r => textOf r.A) ↔ hasR l A = true := by
  unfold hasR
  rw [List.any_eq_true, List.mem_map]
  constructor
  · rintro ⟨r, h1, h2⟩; exact ⟨r, h1, decide_eq_true (textOf_inj (hl r h1) hA h2)⟩
  · rintro ⟨r, h1, h2⟩; exact ⟨r, h1, by rw [of_decide_eq_true h2]⟩
theorem keep_sh {acc : List Rw} {r : Rw} {a : AV} {H : List AObj} {T : List Nat} (hK : KeptS acc H T) (ha : RwIs r a) (hacc : ∀ r ∈ acc, ∀ n ∈ r.A, in64 n) (hr : ∀ n ∈ r.A, in64 n) (hrl : r.A.length ≤ 1000) (hl : acc.length ≤ 500) :
    Sh md pfs 42 [a, .ptr 2 0, .ptr 0 0] ⟨H, T⟩ (fun _ s' => (hasR acc r.A = true ∧ ∃ H' T', s' = ⟨H', T'⟩ ∧ KeptS acc H' T' ∧ Rest3 H H') ∨ (hasR acc r.A = false ∧ acc.length < 500 ∧ ∃ H' T', s' = ⟨H', T'⟩ ∧ KeptS (acc ++ [r]) H' T' ∧ Rest3 H H')) fun v _ => hasR acc r.A = false ∧ acc.length = 500 ∧ v = .iface 28 (.int 6) := by
  obtain ⟨al, t, es, h0, h1, h2, hL, hA, hM⟩ := hK
  obtain ⟨ta, ua, rfl, ha1, ha2⟩ := ha
  obtain ⟨_, rfl, c43⟩ := (text_ret (l := r.A) (t := ta) hr (by omega)).call rfl (by simp [pvs_cons, pvs_nil, pv_sl, ha1, ints_pure])
  have hln := hL.len
  have l0 := lt_of_get h0
  have l1 := lt_of_get h1
  have l2 := lt_of_get h2
  refine sh_of pf42_is (Nat.le_of_ble_eq_true rfl) ?_
  have hm := hM (textOf r.A)
  by_cases hh : hasR acc r.A = true
  · rw [if_pos ((has_text hacc hr).2 hh)] at hm
    simp only [pf42, ↓wpre, wset, wcore, ne_eq, if_true, if_false, exists_eq_left', true_implies, false_implies, exists_const, exists_eq_right, binA, intA, loadA, storeA, pickC, setAt, mapO, argsE, X.isC, resA, oneA, unA, boundA, eqiA, eqsA, fillA, fillE, ASt.fz, strA, Nat.reduceEqDiff, Nat.reduceLT, ↓reduceIte, reduceCtorEq, Nat.reduceAdd, Nat.reduceLeDiff, Int.reduceBEq, Int.reduceBNe, Int.reduceLT, Int.reduceLE, Int.reduceGT, Int.reduceGE, Nat.reduceDiv, Nat.reduceMul, Nat.reduceBEq, Nat.reduceMod, Nat.reduceSub, List.length_append, List.append_assoc, app_get_len, app_get_add, app_set_len, app_set_add, app_get_of h0, app_get_of h1, app_get_of h2, c43, hm, keyOK]
    exact .inl ⟨hh, _, _, rfl, ⟨al, t, es, app_get_of h0 _, app_get_of h1 _, app_get_of h2 _, hL, hA, hM⟩, by simp, fun i o _ h => app_get_of h _⟩
  · have hnot := fun h => hh ((has_text hacc hr).1 h)
    rw [if_neg hnot] at hm
    obtain ⟨hu, hM'⟩ := mapB_add hM hnot
    have hF : hasR acc r.A = false := by simpa using hh
    obtain ⟨t', T', ap, hA', _⟩ := app_one (es := 2) (x := .agg [.sl (ints r.A) ta, .sl (ints r.F) ua]) hA (by unfold capB; omega) (hL.all rwAgg) rfl rfl
    generalize hes : es ++ [(AV.str (strL (textOf r.A)), AV.bool true)] = es' at *
    generalize hB : AObj.cells false [AV.sl (ints r.A) ta, AV.sl (ints r.F) ua] = B at *
    have k0 : ((H ++ [B]).set 1 (.map es'))[0]? = some (.cells false [.sl al t]) := by
      rw [List.getElem?_set, if_neg (by omega)]; exact app_get_of h0 _
    have k3 : ((H ++ [B]).set 1 (.map es'))[H.length]? = some B := by
      rw [List.getElem?_set, if_neg (by omega), List.getElem?_append_right (Nat.le_refl _), Nat.sub_self]; rfl
    have k4 : (((H ++ [B]).set 1 (.map es')).set 0 (.cells false [.sl (al ++ [.agg [.sl (ints r.A) ta, .sl (ints r.F) ua]]) t']))[0]? = some (.cells false [.sl (al ++ [.agg [.sl (ints r.A) ta, .sl (ints r.F) ua]]) t']) := by
      rw [List.getElem?_set, if_pos rfl, if_pos (by simp)]
    subst hB
    have c44 : ∀ pm s K KP, CW (run md pfs) md pm s 44 [.int 6] K KP () = KP (.iface 28 (.int 6)) s := by
      obtain ⟨_, rfl, h⟩ := (fail_pan (n := 6)).callPan rfl (by simp [pvs_cons, pvs_nil, pv_v])
      exact h
    have hlen : (((al ++ [AV.agg [AV.sl (ints r.A) ta, AV.sl (ints r.F) ua]]).length : Nat) : Int) = (acc.length : Int) + 1 := by rw [List.length_append, hln]; rfl
    by_cases h5 : acc.length < 500
    · have c5 : decide ((acc.length : Int) + 1 > 500) = false := by simp only [decide_eq_false_iff_not]; omega
      simp only [pf42, ↓wpre, wset, wcore, ne_eq, if_true, if_false, exists_eq_left', true_implies, false_implies, exists_const, exists_eq_right, binA, intA, loadA, storeA, pickC, setAt, mapO, argsE, X.isC, resA, oneA, unA, boundA, eqiA, eqsA, fillA, fillE, ASt.fz, strA, Nat.reduceEqDiff, Nat.reduceLT, ↓reduceIte, reduceCtorEq, Nat.reduceAdd, Nat.reduceLeDiff, Int.reduceBEq, Int.reduceBNe, Int.reduceLT, Int.reduceLE, Int.reduceGT, Int.reduceGE, Nat.reduceDiv, Nat.reduceMul, Nat.reduceBEq, Nat.reduceMod, Nat.reduceSub, app_get_len, app_get_of h0, app_get_of h1, app_get_of h2, c43, hm, keyOK, hu, k0, k3, k4, ap, hlen, c5]
      refine .inr ⟨hF, h5, _, _, rfl, ⟨_, t', es', k4, ?_, ?_, hL.append (.one ⟨ta, ua, rfl, ha1, ha2⟩), hA', by simpa using hM'⟩, by simp, fun i o hi h => ?_⟩
      · rw [List.getElem?_set, if_neg (by omega), List.getElem?_set, if_pos rfl, if_pos (by simp; omega)]
      · rw [List.getElem?_set, if_neg (by omega), List.getElem?_set, if_neg (by omega)]; exact app_get_of h2 _
      · rw [List.getElem?_set, if_neg (by omega), List.getElem?_set, if_neg (by omega)]; exact app_get_of h _
    · have c5 : decide ((acc.length : Int) + 1 > 500) = true := by simp only [decide_eq_true_eq]; omega
      simp only [pf42, ↓wpre, wset, wcore, ne_eq, if_true, if_false, exists_eq_left', true_implies, false_implies, exists_const, exists_eq_right, binA, intA, loadA, storeA, pickC, setAt, mapO, argsE, X.isC, resA, oneA, unA, boundA, eqiA, eqsA, fillA, fillE, ASt.fz, strA, Nat.reduceEqDiff, Nat.reduceLT, ↓reduceIte, reduceCtorEq, Nat.reduceAdd, Nat.reduceLeDiff, Int.reduceBEq, Int.reduceBNe, Int.reduceLT, Int.reduceLE, Int.reduceGT, Int.reduceGE, Nat.reduceDiv, Nat.reduceMul, Nat.reduceBEq, Nat.reduceMod, Nat.reduceSub, app_get_len, app_get_of h0, app_get_of h1, app_get_of h2, c43, hm, keyOK, hu, k0, k3, k4, ap, hlen, c5, c44]
      exact ⟨hF, by omega⟩
end Go.Proofs.Eng
