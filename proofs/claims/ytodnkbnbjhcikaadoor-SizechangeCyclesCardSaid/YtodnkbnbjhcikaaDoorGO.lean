/- slices.Grow of a nil slice, as a told result. No conditions beyond those in the theorems. -/
import Derived.Test.YtodnkbnbjhcikaaDoorSH
import Derived.Test.YtodnkbnbjhcikaaDoorG5
set_option linter.all false
set_option linter.deprecated false
set_option linter.unnecessarySimpa false
set_option linter.unusedVariables false
set_option linter.unusedSimpArgs false
set_option linter.defProp false
namespace Go.Proofs.Eng
open Go Go.Proofs Go.Shelf Go.RowKit
def growO : List AV → ASt → Option (AV × ASt)
  | [.sl [] .nil, .v (.int .i64 n)], s => if 1 ≤ n ∧ n ≤ 1073741824 then some (.sl [] (.tls s.T.length 0 1), ⟨s.H, s.T ++ [0]⟩) else none
  | _, _ => none
theorem grow_ok [DrK] : OraOK Tryd.prog 63 growO := by
  intro args s v s' hv
  refine ⟨⟨_, _, Tryd.func63, rfl, by kernel_rfl⟩, fun g w vs hI hr => ?_⟩
  unfold growO at hv
  split at hv
  · rename_i _ n
    split at hv
    · rename_i hn
      simp only [Option.some.injEq, Prod.mk.injEq] at hv
      obtain ⟨rfl, rfl⟩ := hv
      obtain ⟨m, rfl⟩ : ∃ m : Nat, n = m := ⟨n.toNat, by omega⟩
      obtain ⟨u, us, rfl, hu, hr1⟩ := hr.cons_inv
      obtain ⟨u1, us, rfl, hu1, hnil⟩ := hr1.cons_inv
      obtain rfl : us = [] := List.length_eq_zero_iff.1 hnil.1.symm
      obtain ⟨a, cap, b, o, cs, rfl, h1, h2, h3, h4, h5⟩ := hu.sl_inv
      obtain ⟨rfl, _, rfl⟩ := h5
      rw [hu1.v_inv]
      have hi0 : (Tryd.prog.info? 3).isSome = true := by kernel_rfl
      obtain ⟨i0, hi⟩ := Option.isSome_iff_exists.1 hi0
      have e1 : (Tryd.prog.info? 3).map (fun i => (i.size, i.bytes)) = some (1, 8) := by kernel_rfl
      have e2 : (Tryd.prog.info? 3).bind (fun i => i.zero) = some (.int .i64 0) := by kernel_rfl
      rw [hi] at e1 e2
      simp only [Option.map_some, Option.some.injEq, Prod.mk.injEq] at e1
      simp only [Option.bind_some] at e2
      refine (Any8.slices_Grow_grow Tryd.growR i0 (.int .i64 0) hi e2 (by omega) none 0 0 m [] w (Nat.le_refl _) (by omega) (by rw [e1.2]; omega) (by omega) (by simp) (fun _ => rfl) (fun a h => by cases h)).mono fun e w' ⟨he, hw⟩ => ?_
      subst he hw
      have hG := grownCap_ge w (0 + m) 0 (Tryd.growR_ren.t 25)
      generalize grownCap w (0 + m) 0 (Tryd.growR_ren.t 25) = G at hG
      generalize hC : (([] : List Value).toArray ++ Builtin.zeroCells (Value.int .i64 0).cells (0 + m - 0) ++ Builtin.zeroCells (Value.int .i64 0).cells (G - (0 + m)) : Array Value) = C
      have hCs : C.size = G := by
        rw [← hC]; simp [Builtin.zeroCells, Value.cells]; omega
      obtain ⟨j1, j2⟩ := own_new (id := s.T.length) (T' := s.T ++ [0]) (cs := C) (el := Tryd.growR_ren.t 25) (d := w.drawn + 1) (es := 1) (cap := G) (n := 0) hI (by simp) (by simp) (fun i v _ h => by rw [List.getElem?_append_left (List.getElem?_eq_some_iff.1 h).1]; exact h) (fun v h => by have := (List.getElem?_eq_some_iff.1 h).1; omega) (by omega) (Nat.zero_le _)
      refine ⟨_, j1, j2, ?_⟩
      refine .sl (b := w.heap.size) (o := 0) [] rfl (fun k a c h => by simp [flat] at h) (fun k c h => by simp at h) (fun h => absurd rfl h) rfl (Nat.zero_le _) ?_
      exact ⟨0, by simp, Nat.le_refl _, fun _ => ⟨⟨w.heap.size, 1, G, 0⟩, 0, by simp [Gh.own], rfl, by simp, fun _ => by simp, rfl⟩⟩
    · simp at hv
  · simp at hv
set_option maxRecDepth 10000
def wext := And.intro @oz_max3 (And.intro @W_dregx (And.intro @XL_some (And.intro @XE_eq (And.intro @XW_nil (And.intro @XW_cons (And.intro @mb_alloc (And.intro @mb_mkmap (And.intro @mb_box (And.intro @mb_mksl (And.intro @M3_ite (And.intro @pk_mov (And.intro @pk_pick (And.intro @pk_build (And.intro @pk_bsl (And.intro @pk_nilck (And.intro @pk_bin (And.intro @pk_eqb (And.intro @pk_eqi (And.intro @pk_eqs (And.intro @pk_eqg (And.intro @pk_un (And.intro @pk_conv (And.intro @pk_smov (And.intro @pk_mkif (And.intro @pk_mkfn (And.intro @pk_faddr (And.intro @pk_fld (And.intro @pk_iaddr (And.intro @pk_iaddrA (And.intro @pk_idxA (And.intro @pk_idxS (And.intro @pk_lenS (And.intro @pk_lenT (And.intro @pk_lenA (And.intro @pk_ext (And.intro @pk_slice (And.intro @pk_strsl (And.intro @pk_max (And.intro @pk_min (And.intro @pk_max3 (And.intro @pk_load (And.intro @pk_look (And.intro @pk_lenM (And.intro @pk_bstr (And.intro @pk_call (And.intro @pk_app (And.intro @pk_alloc (And.intro @pk_box (And.intro @pk_mksl (And.intro @pk_mkmap (And.intro @kw_mov (And.intro @kw_pick (And.intro @kw_build (And.intro @kw_bsl (And.intro @kw_nilck (And.intro @kw_bin (And.intro @kw_eqb (And.intro @kw_eqi (And.intro @kw_eqs (And.intro @kw_eqg (And.intro @kw_un (And.intro @kw_conv (And.intro @kw_smov (And.intro @kw_mkif (And.intro @kw_mkfn (And.intro @kw_faddr (And.intro @kw_fld (And.intro @kw_iaddr (And.intro @kw_iaddrA (And.intro @kw_idxA (And.intro @kw_idxS (And.intro @kw_lenS (And.intro @kw_lenT (And.intro @kw_lenA (And.intro @kw_ext (And.intro @kw_slice (And.intro @kw_strsl (And.intro @kw_max (And.intro @kw_min (And.intro @kw_max3 (And.intro @kw_load (And.intro @kw_look (And.intro @kw_lenM (And.intro @kw_bstr (And.intro @kw_call (And.intro @kw_app (And.intro @kw_alloc (And.intro @kw_box (And.intro @kw_mksl (And.intro @kw_mkmap (And.intro @kw_store (And.intro @kw_mapup (And.intro @kz_eqg (And.intro @kz_mkfn (And.intro @kz_iaddrA (And.intro @kz_idxA (And.intro @kz_idxS (And.intro @kz_lenA (And.intro @kz_strsl (And.intro @kz_max (And.intro @kz_min (And.intro @kz_max3 (And.intro @kz_app (And.intro @kz_box (And.intro @kz_mksl (And.intro @kz_look (And.intro @kz_lenM (And.intro @kz_bstr (And.intro @kz_mkmap (And.intro @RA_n (And.intro @RB_n (And.intro @RB_e (@RB_r)))))))))))))))))))))))))))))))))))))))))))))))))))))))))))))))))))))))))))))))))))))))))))))))))))))))))))))))))
end Go.Proofs.Eng
