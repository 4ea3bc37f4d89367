/- The calls that are found: a call of add, the queue. No conditions beyond those in the theorems. -/
import Derived.Test.YtodnkbnbjhcikaaDoorE2f
set_option linter.all false
set_option linter.deprecated false
set_option linter.unnecessarySimpa false
set_option linter.unusedVariables false
set_option linter.unusedSimpArgs false
set_option linter.defProp false
namespace Go.Proofs.Eng
open Go Go.Proofs
theorem good_sm {ar : Int → Nat} {c : Cl} (h : Good ar c) : Sm c := form_sm h.form
theorem LIs.memA {α : Type} {R : α → AV → Prop} : ∀ {l : List α} {al : List AV}, LIs R l al → ∀ x ∈ l, ∃ a, R x a
  | [], _, _, x, hx => by simp at hx
  | _ :: _, [], h, _, _ => by simp [LIs] at h
  | y :: l, a :: al, h, x, hx => by
    simp only [LIs] at h
    rcases List.mem_cons.1 hx with rfl | hx
    · exact ⟨a, h.1⟩
    · exact LIs.memA h.2 x hx
theorem FoundS.app {q : List Cl} {H : List AObj} {T : List Nat} (h : FoundS q H T) (Z : List AObj) : FoundS q (H ++ Z) T := by
  obtain ⟨al, t, es, h0, h1, h2⟩ := h
  exact ⟨al, t, es, app_get_of h0 _, app_get_of h1 _, h2⟩
theorem Rest2.app (H Z : List AObj) : Rest2 H (H ++ Z) := ⟨by simp, fun i o _ h => app_get_of h _⟩
theorem fold_take {α β : Type} {f : β → α → β} {b : β} {l : List α} {j : Nat} {x : α} (h : l[j]? = some x) : (l.take (j + 1)).foldl f b = f ((l.take j).foldl f b) x := by
  rw [List.take_add_one, h, List.foldl_append]; rfl
end Go.Proofs.Eng
namespace Go.Proofs.Eng.F
open Go Go.Proofs Go.Proofs.Eng
set_option maxRecDepth 100000
set_option maxHeartbeats 16000000
def Rw (f : FuncId) (args : List AV) (s : ASt) (PR : AV → ASt → Prop) : Prop := ∃ v s1, run md pfs f args s = some (.ret v, s1) ∧ PR v s1
def AQ (res : List PR) (PR : AV → ASt → Prop) : AExit → St → Prop
  | .pan _, _ => False
  | .exit _, _ => False
  | _, st => st.df = [] ∧ ∃ l, resA st.tm st.s res = some l ∧ PR (oneA l) st.s
theorem AQ_ret {res : List PR} {PR : AV → ASt → Prop} {st : St} : AQ res PR .ret st = (st.df = [] ∧ ∃ l, resA st.tm st.s res = some l ∧ PR (oneA l) st.s) := rfl
theorem AQ_normal {res : List PR} {PR : AV → ASt → Prop} {st : St} : AQ res PR .normal st = (st.df = [] ∧ ∃ l, resA st.tm st.s res = some l ∧ PR (oneA l) st.s) := rfl
theorem AQ_pan {res : List PR} {PR : AV → ASt → Prop} {v : AV} {st : St} : AQ res PR (.pan v) st = False := rfl
theorem AQ_exit {res : List PR} {PR : AV → ASt → Prop} {v : Nat} {st : St} : AQ res PR (.exit v) st = False := rfl
theorem rw_of {f : FuncId} {pf : PF} (hp : pfs f = some pf) {args : List AV} {s : ASt} {PR : AV → ASt → Prop} (hn : args.length ≤ pf.nt) (h : W (run md pfs) md pf.body ⟨tmE pf.nt (argsE args), [], s⟩ (AQ pf.res PR) ()) : Rw f args s PR := by
  unfold Rw
  rw [run_eq hp (W_ora h)]
  unfold bodyI
  rw [args_tm args pf.nt hn]
  unfold W at h
  cases hx : execL (run md pfs) md (loopI (run md pfs) md) pf.body ⟨tmE pf.nt (argsE args), [], s⟩ with
  | none => rw [hx] at h; exact h.elim
  | some x =>
    obtain ⟨r, st⟩ := x
    obtain ⟨tm, df, s⟩ := st
    rw [hx] at h
    cases r with
    | exit i => exact h.elim
    | pan v => exact h.elim
    | normal =>
      obtain ⟨h1, l, h2, h3⟩ := h
      simp only at h1; subst h1
      refine ⟨oneA l, s, ?_, h3⟩
      simp only at h2
      simp only [List.isEmpty_nil, Bool.not_true, Bool.and_false, Bool.false_eq_true, if_false, leaveA, h2]; rfl
    | ret =>
      obtain ⟨h1, l, h2, h3⟩ := h
      simp only at h1; subst h1
      refine ⟨oneA l, s, ?_, h3⟩
      simp only at h2
      simp only [List.isEmpty_nil, Bool.not_true, Bool.and_false, Bool.false_eq_true, if_false, leaveA, h2]; rfl
theorem Rw.call {f : FuncId} {args : List AV} {s : ASt} {PR : AV → ASt → Prop} (h : Rw f args s PR) (hm : md f = .raw) : ∃ v s', PR v s' ∧ ∀ K KP, CW (run md pfs) md false s f args K KP () = K v s' := by
  obtain ⟨v, s1, h1, h2⟩ := h
  exact ⟨v, s1, h2, fun K KP => by simp [CW, callA, hm, h1]⟩
theorem add_call {ar : Int → Nat} {q : List Cl} {c : Cl} {a : AV} {H : List AObj} {T : List Nat} (hK : FoundS q H T) (hc : ClIs c a) (hg : Good ar c) (hq : ∀ x ∈ q, Good ar x) (hl : q.length ≤ 1000000) :
    ∃ v H' T', FoundS (addQ q c) H' T' ∧ Rest2 H H' ∧ ∀ K KP, CW (run md pfs) md false ⟨H, T⟩ 43 [.ptr 1 0, a] K KP () = K v ⟨H', T'⟩ := by
  have hL : ∀ x ∈ q, ∃ a, ClIs x a := by
    obtain ⟨al, t, es, _, _, h, _⟩ := hK
    exact LIs.memA h
  rcases (add_sh hK hc (good_sm hg) (fun x hx => by obtain ⟨a, ha⟩ := hL x hx; exact ent_in ha) (fun x hx e => ent_inj (hq x hx) hg e) hl).call rfl with ⟨v, s', ⟨H', T', rfl, h1, h2⟩, h3⟩ | ⟨_, _, h, _⟩
  · exact ⟨v, H', T', h1, h2, h3⟩
  · exact h.elim
theorem queue_call {H : List AObj} {T : List Nat} : ∀ K KP, CW (run md pfs) md false ⟨H, T⟩ 45 [.ptr 1 0] K KP () = K (.fn 59 [.ptr H.length 0]) ⟨H ++ [.cells false [.ptr 1 0]], T⟩ := by
  have h : Rw 45 [.ptr 1 0] ⟨H, T⟩ fun v s' => v = .fn 59 [.ptr H.length 0] ∧ s' = ⟨H ++ [.cells false [.ptr 1 0]], T⟩ := by
    refine rw_of pf45_is (Nat.le_of_ble_eq_true rfl) ?_
    simp only [pf45, ↓wpre, wset, wcore, wext, ne_eq, if_true, if_false, exists_eq_left', true_implies, false_implies, exists_const, exists_eq_right, binA, intA, loadA, storeA, pickC, setAt, mapO, argsE, X.isC, resA, oneA, unA, boundA, eqiA, eqsA, fillA, fillE, ASt.fz, strA, simprocAttr, List.length_append, List.append_assoc, app_get_len, app_get_add, app_set_len, app_set_add, AQ_ret, AQ_normal, AQ_pan, AQ_exit]
  obtain ⟨v, s', ⟨rfl, rfl⟩, h⟩ := h.call rfl
  exact h
theorem add_good {ar : Int → Nat} {q : List Cl} {c : Cl} (hq : ∀ x ∈ q, Good ar x) (hc : Good ar c) : ∀ x ∈ addQ q c, Good ar x := by
  intro x hx
  rcases addQ_mem.1 hx with h | rfl
  · exact hq x h
  · exact hc
end Go.Proofs.Eng.F
