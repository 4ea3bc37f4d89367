/- Code whose first parts are the engine's, and whose rest is walked by hand. No conditions beyond those in the theorems. -/
import Derived.Test.YtodnkbnbjhcikaaDoorIT
set_option linter.all false
set_option linter.deprecated false
set_option linter.unnecessarySimpa false
set_option linter.unusedVariables false
set_option linter.unusedSimpArgs false
set_option linter.defProp false
namespace Go.Proofs.Eng
open Go Go.Proofs
section
variable [DrK] {P : Program} {g : Gh} {s : ASt} {w : World} {call : Oracle} {md : FuncId → Md}
theorem exec_h (hS : Sound P call) {bsf : Bf} (hD : RegSound P bsf call md) (hA : ItAll P bsf) (N : Nat) {n : Nat} {we : World} {Q : Exit → Act → World → Prop} (hLO : ∀ a w, ¬ Q .outgrown a w) : ∀ (k : Nat) (c x y : Code) (pc : PC), splitN k c = some (x, y) → prepQ P bsf x = some pc → ∀ (X : List Deferred) (st st' : St) (ex : AExit) (a : Act) (g : Gh) (w : World), exec call md N pc st = some (ex, st') → StRep g w st a → MarksOK we g w X → we.heap.size ≤ w.heap.size →
    (∀ g' a' w' X', Ext g st.s w g' st'.s w' → StRep g' w' st' a' → MarksOK we g' w' X' → ex = .normal → y.wpIn Fence.wide n P Q (wd X' a') w') →
    (∀ g' a' w' e X', Ext g st.s w g' st'.s w' → StRep g' w' st' a' → MarksOK we g' w' X' → ex ≠ .normal → ExRep g' st'.s w' ex e → Q e (wd X' a') w') →
    c.wpIn Fence.wide n P Q (wd X a) w
  | 0, c, x, y, pc, hsp, hp, X, st, st', ex, a, g, w, hs, hR, hX, hwe, h1, h2 => by
    simp only [splitN, Option.some.injEq, Prod.mk.injEq] at hsp
    obtain ⟨rfl, rfl⟩ := hsp
    simp only [prepQ, noDef, if_true, prepC, Option.some.injEq] at hp
    subst hp
    simp only [exec, execL, Option.some.injEq, Prod.mk.injEq] at hs
    obtain ⟨rfl, rfl⟩ := hs
    exact h1 g a w X (.refl _ _ _) hR hX rfl
  | k + 1, .seq a1 b1, x, y, pc, hsp, hp, X, st, st', ex, a, g, w, hs, hR, hX, hwe, h1, h2 => by
    simp only [splitN] at hsp
    obtain ⟨⟨x', y'⟩, hsp', e⟩ := Option.map_eq_some_iff.1 hsp
    simp only [Prod.mk.injEq] at e
    obtain ⟨rfl, rfl⟩ := e
    simp only [prepQ] at hp
    split at hp
    · rename_i px py hx hy
      simp only [Option.some.injEq] at hp; subst hp
      simp only [exec, execL] at hs
      cases he : execL call md (loopN call md N) px st with
      | none => rw [he] at hs; simp at hs
      | some r =>
        obtain ⟨ex1, st1⟩ := r
        rw [he] at hs
        refine wpIn_seq (exec_q hS hD hA N _ px hx X st st1 ex1 a g w _ (fun a w h => hLO a w h) he hR hX hwe fun g' a' w' e X' hE hR' hX' hx' => ?_)
        cases ex1 with
        | normal =>
          cases e <;> first | exact hx'.elim | skip
          exact exec_h hS hD hA N hLO k b1 x' y' py hsp' hy X' st1 st' ex a' g' w' hs hR' hX' (Nat.le_trans hwe hE.size) (fun g2 a2 w2 X2 hE2 hR2 hX2 hn => h1 g2 a2 w2 X2 (hE.trans hE2) hR2 hX2 hn) fun g2 a2 w2 e2 X2 hE2 hR2 hX2 hn hx2 => h2 g2 a2 w2 e2 X2 (hE.trans hE2) hR2 hX2 hn hx2
        | exit i => simp only [Option.some.injEq, Prod.mk.injEq] at hs; obtain ⟨rfl, rfl⟩ := hs; cases e <;> first | exact hx'.elim | exact h2 g' a' w' _ X' hE hR' hX' (by simp) hx'
        | ret => simp only [Option.some.injEq, Prod.mk.injEq] at hs; obtain ⟨rfl, rfl⟩ := hs; cases e <;> first | exact hx'.elim | exact h2 g' a' w' _ X' hE hR' hX' (by simp) hx'
        | pan v => simp only [Option.some.injEq, Prod.mk.injEq] at hs; obtain ⟨rfl, rfl⟩ := hs; cases e <;> first | exact hx'.elim | exact h2 g' a' w' _ X' hE hR' hX' (by simp) hx'
    · cases hp
  | k + 1, .skip, _, _, _, hsp, _, _, _, _, _, _, _, _, _, _, _, _, _, _ => by simp [splitN] at hsp
  | k + 1, .region _ _ _, _, _, _, hsp, _, _, _, _, _, _, _, _, _, _, _, _, _, _ => by simp [splitN] at hsp
  | k + 1, .cond _ _ _, _, _, _, hsp, _, _, _, _, _, _, _, _, _, _, _, _, _, _ => by simp [splitN] at hsp
  | k + 1, .block _ _, _, _, _, hsp, _, _, _, _, _, _, _, _, _, _, _, _, _, _ => by simp [splitN] at hsp
  | k + 1, .loop _, _, _, _, hsp, _, _, _, _, _, _, _, _, _, _, _, _, _, _ => by simp [splitN] at hsp
  | k + 1, .exit _, _, _, _, hsp, _, _, _, _, _, _, _, _, _, _, _, _, _, _ => by simp [splitN] at hsp
  | k + 1, .ret, _, _, _, hsp, _, _, _, _, _, _, _, _, _, _, _, _, _, _ => by simp [splitN] at hsp
  | k + 1, .rangeFunc _ _ _ _, _, _, _, hsp, _, _, _, _, _, _, _, _, _, _, _, _, _, _ => by simp [splitN] at hsp
  | k + 1, .scope _, _, _, _, hsp, _, _, _, _, _, _, _, _, _, _, _, _, _, _ => by simp [splitN] at hsp
  | k + 1, .label _, _, _, _, hsp, _, _, _, _, _, _, _, _, _, _, _, _, _, _ => by simp [splitN] at hsp
  | k + 1, .goto _, _, _, _, hsp, _, _, _, _, _, _, _, _, _, _, _, _, _, _ => by simp [splitN] at hsp
  | k + 1, .refuse _, _, _, _, hsp, _, _, _, _, _, _, _, _, _, _, _, _, _, _ => by simp [splitN] at hsp
theorem steps_pre (hS : Sound P call) {bsf : Bf} {ops : Array Oper} {Q : Exit → Act → World → Prop} (m : List Nat) : ∀ (l : List PI) (k : Nat) (st : St) (a : Act) (g : Gh) (w : World) (st' : St), IsPrep P bsf ops k l → stepsA call md l st = some (.normal, st') → StRep g w st a → (∀ g' a' w', Ext g st.s w g' st'.s w' → StRep g' w' st' a' → wpOps P ops Q m a' w') →
    wpOps P ops Q (List.range' k l.length ++ m) a w
  | [], k, st, a, g, w, st', _, hs, hR, hQ => by
    simp only [stepsA, Option.some.injEq, Prod.mk.injEq, true_and] at hs
    subst hs
    exact hQ g a w (.refl _ _ _) hR
  | i :: l, k, st, a, g, w, st', hp, hs, hR, hQ => by
    obtain ⟨o, ho, h1, h2, h3⟩ := hp 0 i rfl
    have hp' : IsPrep P bsf ops (k + 1) l := fun j i' hj => by
      obtain ⟨o', ho', r⟩ := hp (j + 1) i' (by simpa using hj)
      exact ⟨o', by rw [← ho']; congr 1; omega, r⟩
    rw [Nat.add_zero] at ho
    simp only [stepsA] at hs
    simp only [List.length_cons, List.range'_succ, List.cons_append, wpOps, ho]
    cases h4 : stepA call md false i st with
    | none => rw [h4] at hs; simp at hs
    | some r =>
      obtain ⟨ex1, st1⟩ := r
      rw [h4] at hs
      cases ex1 with
      | normal =>
        have := step_wp hS h1 h2 h3 h4 hR (K := wpOps P ops Q (List.range' (k + 1) l.length ++ m)) (Q := Q)
          (fun _ g' a' w' hE hR' _ => steps_pre hS m l (k + 1) st1 a' g' w' st' hp' hs hR' fun g'' a'' w'' hE' hR'' => hQ g'' a'' w'' (hE.trans hE') hR'')
          (fun v e => by cases e)
        split
        · rename_i hwt; rw [if_pos hwt] at this; exact .inl this
        · rename_i hwt; rw [if_neg hwt] at this; exact this
      | exit i => simp at hs
      | ret => simp at hs
      | pan v => simp at hs
theorem exec_of_W {md : FuncId → Md} {pfs : FuncId → Option PF} {pc : PC} {st : St} {Q : AExit → St → Prop} (h : W (run md pfs) md pc st Q ()) : ∃ N ex st', exec (callN md pfs N) md N pc st = some (ex, st') ∧ Q ex st' := by
  unfold W EW at h
  cases hx : execL (run md pfs) md (loopI (run md pfs) md) pc st with
  | none => rw [hx] at h; exact h.elim
  | some r =>
    obtain ⟨ex, st'⟩ := r
    rw [hx] at h
    obtain ⟨N, hN⟩ := (execL_cont (run_cont (md := md) pfs) (fun b st => loopI_cont (run_cont (md := md) pfs) b st) pc st).fin _ hx
    exact ⟨N, ex, st', hN, h⟩
end
end Go.Proofs.Eng
