/- Calls as they lie in memory. No conditions beyond those in the theorems. -/
import Derived.Test.YtodnkbnbjhcikaaDoorKO
import Derived.Test.YtodnkbnbjhcikaaDoorG5
import Derived.Test.YtodnkbnbjhcikaaDoorRows
set_option linter.all false
set_option linter.deprecated false
set_option linter.unnecessarySimpa false
set_option linter.unusedVariables false
set_option linter.unusedSimpArgs false
set_option linter.defProp false
namespace Go.Proofs.Eng
open Go Go.Proofs Go.Shelf Go.RowKit
def growO : List AV → ASt → Option (AV × ASt)
  | [.sl [] .nil, .v (.int .i64 n)], s => if 1 ≤ n ∧ n ≤ 1073741824 then some (.sl [] (.tls s.T.length 0 1), ⟨s.H, s.T ++ [0]⟩) else none
  | _, _ => none
theorem grow_ok [DrK] : OraOK Tryd.prog 63 growO := by
  intro args s v s' hv
  refine ⟨⟨_, _, Tryd.func63, rfl, by kernel_rfl⟩, fun g w vs hI hr => ?_⟩
  unfold growO at hv
  split at hv
  · rename_i _ n
    split at hv
    · rename_i hn
      simp only [Option.some.injEq, Prod.mk.injEq] at hv
      obtain ⟨rfl, rfl⟩ := hv
      obtain ⟨m, rfl⟩ : ∃ m : Nat, n = m := ⟨n.toNat, by omega⟩
      obtain ⟨u, us, rfl, hu, hr1⟩ := hr.cons_inv
      obtain ⟨u1, us, rfl, hu1, hnil⟩ := hr1.cons_inv
      obtain rfl : us = [] := List.length_eq_zero_iff.1 hnil.1.symm
      obtain ⟨a, cap, b, o, cs, rfl, h1, h2, h3, h4, h5⟩ := hu.sl_inv
      obtain ⟨rfl, _, rfl⟩ := h5
      rw [hu1.v_inv]
      have hi0 : (Tryd.prog.info? 3).isSome = true := by kernel_rfl
      obtain ⟨i0, hi⟩ := Option.isSome_iff_exists.1 hi0
      have e1 : (Tryd.prog.info? 3).map (fun i => (i.size, i.bytes)) = some (1, 8) := by kernel_rfl
      have e2 : (Tryd.prog.info? 3).bind (fun i => i.zero) = some (.int .i64 0) := by kernel_rfl
      rw [hi] at e1 e2
      simp only [Option.map_some, Option.some.injEq, Prod.mk.injEq] at e1
      simp only [Option.bind_some] at e2
      refine (Any8.slices_Grow_grow Tryd.growR i0 (.int .i64 0) hi e2 (by omega) none 0 0 m [] w (Nat.le_refl _) (by omega) (by rw [e1.2]; omega) (by omega) (by simp) (fun _ => rfl) (fun a h => by cases h)).mono fun e w' ⟨he, hw⟩ => ?_
      subst he hw
      have hG := grownCap_ge w (0 + m) 0 (Tryd.growR_ren.t 25)
      generalize grownCap w (0 + m) 0 (Tryd.growR_ren.t 25) = G at hG
      generalize hC : (([] : List Value).toArray ++ Builtin.zeroCells (Value.int .i64 0).cells (0 + m - 0) ++ Builtin.zeroCells (Value.int .i64 0).cells (G - (0 + m)) : Array Value) = C
      have hCs : C.size = G := by
        rw [← hC]; simp [Builtin.zeroCells, Value.cells]; omega
      obtain ⟨j1, j2⟩ := own_new (id := s.T.length) (T' := s.T ++ [0]) (cs := C) (el := Tryd.growR_ren.t 25) (d := w.drawn + 1) (es := 1) (cap := G) (n := 0) hI (by simp) (by simp) (fun i v _ h => by rw [List.getElem?_append_left (List.getElem?_eq_some_iff.1 h).1]; exact h) (fun v h => by have := (List.getElem?_eq_some_iff.1 h).1; omega) (by omega) (Nat.zero_le _)
      refine ⟨_, j1, j2, ?_⟩
      refine .sl (b := w.heap.size) (o := 0) [] rfl (fun k a c h => by simp [flat] at h) (fun k c h => by simp at h) (fun h => absurd rfl h) rfl (Nat.zero_le _) ?_
      exact ⟨0, by simp, Nat.le_refl _, fun _ => ⟨⟨w.heap.size, 1, G, 0⟩, 0, by simp [Gh.own], rfl, by simp, fun _ => by simp, rfl⟩⟩
    · simp at hv
  · simp at hv
set_option maxRecDepth 10000
def wext := And.intro @oz_max3 (And.intro @W_dregx (And.intro @XL_some (And.intro @XE_eq (And.intro @XW_nil (And.intro @XW_cons (And.intro @mb_alloc (And.intro @mb_mkmap (And.intro @mb_box (And.intro @mb_mksl (And.intro @M3_ite (And.intro @pk_mov (And.intro @pk_pick (And.intro @pk_build (And.intro @pk_bsl (And.intro @pk_nilck (And.intro @pk_bin (And.intro @pk_eqb (And.intro @pk_eqi (And.intro @pk_eqs (And.intro @pk_eqg (And.intro @pk_un (And.intro @pk_conv (And.intro @pk_smov (And.intro @pk_mkif (And.intro @pk_mkfn (And.intro @pk_faddr (And.intro @pk_fld (And.intro @pk_iaddr (And.intro @pk_iaddrA (And.intro @pk_idxA (And.intro @pk_idxS (And.intro @pk_lenS (And.intro @pk_lenT (And.intro @pk_lenA (And.intro @pk_ext (And.intro @pk_slice (And.intro @pk_strsl (And.intro @pk_max (And.intro @pk_min (And.intro @pk_max3 (And.intro @pk_load (And.intro @pk_look (And.intro @pk_lenM (And.intro @pk_bstr (And.intro @pk_call (And.intro @pk_app (And.intro @pk_alloc (And.intro @pk_box (And.intro @pk_mksl (And.intro @pk_mkmap (And.intro @kw_mov (And.intro @kw_pick (And.intro @kw_build (And.intro @kw_bsl (And.intro @kw_nilck (And.intro @kw_bin (And.intro @kw_eqb (And.intro @kw_eqi (And.intro @kw_eqs (And.intro @kw_eqg (And.intro @kw_un (And.intro @kw_conv (And.intro @kw_smov (And.intro @kw_mkif (And.intro @kw_mkfn (And.intro @kw_faddr (And.intro @kw_fld (And.intro @kw_iaddr (And.intro @kw_iaddrA (And.intro @kw_idxA (And.intro @kw_idxS (And.intro @kw_lenS (And.intro @kw_lenT (And.intro @kw_lenA (And.intro @kw_ext (And.intro @kw_slice (And.intro @kw_strsl (And.intro @kw_max (And.intro @kw_min (And.intro @kw_max3 (And.intro @kw_load (And.intro @kw_look (And.intro @kw_lenM (And.intro @kw_bstr (And.intro @kw_call (And.intro @kw_app (And.intro @kw_alloc (And.intro @kw_box (And.intro @kw_mksl (And.intro @kw_mkmap (And.intro @kw_store (And.intro @kw_mapup (And.intro @kz_eqg (And.intro @kz_mkfn (And.intro @kz_iaddrA (And.intro @kz_idxA (And.intro @kz_idxS (And.intro @kz_lenA (And.intro @kz_strsl (And.intro @kz_max (And.intro @kz_min (And.intro @kz_max3 (And.intro @kz_app (And.intro @kz_box (And.intro @kz_mksl (And.intro @kz_look (And.intro @kz_lenM (And.intro @kz_bstr (And.intro @kz_mkmap (And.intro @RA_n (And.intro @RB_n (And.intro @RB_e (@RB_r)))))))))))))))))))))))))))))))))))))))))))))))))))))))))))))))))))))))))))))))))))))))))))))))))))))))))))))))))
end Go.Proofs.Eng
namespace Go.Proofs.Eng.Z
open Go Go.Proofs Go.Proofs.Eng
def md (f : Nat) : Md := if f = 63 then .raw else .pure
def bf : Bf := ⟨false, fun _ => false, fun _ _ _ _ => none⟩
noncomputable def pfs (f : Nat) : Option PF := if f = 63 then some ⟨0, [], .ora growO⟩ else prepF Tryd.prog bf f
theorem pfsOK [DrK] : PfsOK Tryd.prog pfs := fun f pf h => by
  unfold pfs at h
  split at h
  · rename_i hf
    subst hf
    simp only [Option.some.injEq] at h; subst h
    exact .inr (.inl ⟨_, rfl, grow_ok⟩)
  · exact .inl ⟨_, h⟩
set_option maxRecDepth 100000
def pf36 : PF := ⟨12,[.t 2],.seq (.reg [⟨some 1,none,.box (.t 0),0,[]⟩,⟨some 2,none,.mov (.c (.sl [] .nil)),0,[]⟩]) (.seq (.dreg [8,0] [⟨some 3,none,.faddr 0 (.t 1),0,[]⟩,⟨some 4,none,
 .load false 1 (.t 3),1,[0]⟩,⟨some 5,none,.faddr 1 (.t 1),2,[]⟩,⟨some 6,none,.load false 1 (.t 5),3,[2]⟩,⟨some 7,none,.bsl (.v (.int .i64 0)) 2 [(0,1,.t 4),(1,1,.t 6)],4,
 [3,2,1,0]⟩,⟨some 8,none,.faddr 2 (.t 1),5,[]⟩,⟨some 9,none,.load false 1 (.t 8),6,[5]⟩,⟨some 10,none,.call (.c (.fn 50 [])) [.t 9],7,[6,5]⟩,⟨some 11,none,
 .app 1 none (.t 7) (.t 10),8,[7,6,5,4,3,2,1,0]⟩,⟨some 2,none,.mov (.t 11),9,[8,7,6,5,4,3,2,1,0]⟩]) .ret)⟩
theorem pf36_is : pfs 36 = some pf36 := by kernel_rfl
def pf47 : PF := ⟨10,[.t 4],.seq (.reg [⟨some 2,none,.box (.t 0),0,[]⟩,⟨some 3,none,.box (.t 1),0,[]⟩,⟨some 4,none,.mov (.c (.v (.int .i64 0))),0,[]⟩]) (.seq (.dreg [3,0,0] [⟨some 5,
 none,.load true 3 (.t 2),0,[]⟩,⟨some 6,none,.call (.c (.fn 36 [])) [.t 5],1,[0]⟩,⟨some 7,none,.load true 3 (.t 3),2,[]⟩,⟨some 8,none,.call (.c (.fn 36 [])) [.t 7],3,[1,
 0,2]⟩,⟨some 9,none,.call (.c (.fn 48 [])) [.t 6,.t 8],4,[3,2,1,0]⟩,⟨some 4,none,.mov (.t 9),5,[4,3,2,1,0]⟩]) .ret)⟩
theorem pf47_is : pfs 47 = some pf47 := by kernel_rfl
def pf48 : PF := ⟨36,[.t 4],.seq (.reg [⟨some 4,none,.mov (.c (.v (.int .i64 0))),0,[]⟩]) (.seq (.seq (.reg [⟨some 9,none,.mov (.t 0),0,[]⟩,⟨some 10,none,.lenS (.t 9),0,[]⟩,⟨some 11,
 none,.mov (.c (.v (.int .i64 0))),0,[]⟩]) (.block 0 (.loop (.seq (.reg [⟨some 12,none,.bin .lss (.t 11) (.t 10),0,[]⟩]) (.seq (.cond (.t 12) .skip (.exit 0))
  (.seq (.block 1 (.seq (.reg [⟨some 13,none,.mov (.t 11),0,[]⟩,⟨some 14,none,.iaddr 1 (.t 9) (.t 11),0,[]⟩,⟨some 15,none,.load false 1 (.t 14),0,[]⟩,⟨some 5,none,
 .mov (.t 13),0,[]⟩,⟨some 6,none,.mov (.t 15),0,[]⟩]) (.seq (.seq (.reg [⟨some 16,none,.mov (.t 5),0,[]⟩,⟨some 17,none,.mov (.t 1),0,[]⟩,⟨some 18,none,.lenS (.t 17),0,[]⟩
 ,⟨some 19,none,.bin .geq (.t 16) (.t 18),0,[]⟩]) (.cond (.t 19) (.seq (.reg [⟨some 4,none,.mov (.c (.v (.int .i64 1))),0,[]⟩]) .ret) .skip)) (.seq (.reg [⟨some 20,none,
 .mov (.t 1),0,[]⟩,⟨some 21,none,.mov (.t 5),0,[]⟩,⟨some 22,none,.iaddr 1 (.t 20) (.t 21),0,[]⟩,⟨some 23,none,.load false 1 (.t 22),0,[]⟩,⟨some 7,none,.mov (.t 23),0,[]⟩]
 ) (.seq (.reg [⟨some 24,none,.mov (.t 6),0,[]⟩,⟨some 25,none,.mov (.t 7),0,[]⟩,⟨some 26,none,.call (.c (.fn 62 [])) [.t 24,.t 25],0,[]⟩,⟨some 8,none,.mov (.t 26),0,[]⟩])
  (.seq (.reg [⟨some 27,none,.mov (.t 8),0,[]⟩,⟨some 28,none,.bin .neq (.t 27) (.c (.v (.int .i64 0))),0,[]⟩]) (.cond (.t 28) (.seq (.reg [⟨some 29,none,.mov (.t 8),0,[]⟩
 ,⟨some 4,none,.mov (.t 29),0,[]⟩]) .ret) .skip))))))) (.reg [⟨some 30,none,.bin .add (.t 11) (.c (.v (.int .i64 1))),0,[]⟩,⟨some 11,none,.mov (.t 30),0,[]⟩])))))))
  (.seq (.seq (.reg [⟨some 31,none,.mov (.t 0),0,[]⟩,⟨some 32,none,.lenS (.t 31),0,[]⟩,⟨some 33,none,.mov (.t 1),0,[]⟩,⟨some 34,none,.lenS (.t 33),0,[]⟩,⟨some 35,none,
 .bin .lss (.t 32) (.t 34),0,[]⟩]) (.cond (.t 35) (.seq (.reg [⟨some 4,none,.mov (.c (.v (.int .i64 (-1)))),0,[]⟩]) .ret) .skip)) (.seq (.reg [⟨some 4,none,
 .mov (.c (.v (.int .i64 0))),0,[]⟩]) .ret)))⟩
theorem pf48_is : pfs 48 = some pf48 := by kernel_rfl
def pf50 : PF := ⟨36,[.t 2],.seq (.reg [⟨some 2,none,.mov (.c (.sl [] .nil)),0,[]⟩]) (.seq (.reg [⟨some 3,none,.mov (.c (.v (.int .i64 0))),0,[]⟩]) (.seq (.seq (.reg [⟨some 9,none,
 .mov (.t 0),0,[]⟩,⟨some 10,none,.lenS (.t 9),0,[]⟩,⟨some 11,none,.mov (.c (.v (.int .i64 0))),0,[]⟩]) (.block 0 (.loop (.seq (.reg [⟨some 12,none,.bin .lss (.t 11)
  (.t 10),0,[]⟩]) (.seq (.cond (.t 12) .skip (.exit 0)) (.seq (.block 1 (.seq (.reg [⟨some 13,none,.iaddr 1 (.t 9) (.t 11),0,[]⟩,⟨some 14,none,.load false 1 (.t 13),0,[]⟩
 ,⟨some 5,none,.mov (.t 14),0,[]⟩]) (.seq (.reg [⟨some 15,none,.mov (.t 3),0,[]⟩,⟨some 16,none,.mov (.t 5),0,[]⟩,⟨some 17,none,.lenS (.t 16),0,[]⟩,⟨some 18,none,
 .bin .add (.t 15) (.t 17),0,[]⟩,⟨some 3,none,.mov (.t 18),0,[]⟩]) (.seq (.reg [⟨some 19,none,.mov (.t 3),0,[]⟩,⟨some 20,none,.bin .lss (.t 19) (.c (.v (.int .i64 0))),0,
 []⟩]) (.cond (.t 20) (.reg [⟨some 21,none,.mkif 9 (.c (.v (.string (ByteArray.mk #[108,101,110,32,111,117,116,32,111,102,32,114,97,110,103,101])))),0,[]⟩,⟨none,none,
 .panic (.t 21),0,[]⟩]) .skip))))) (.reg [⟨some 22,none,.bin .add (.t 11) (.c (.v (.int .i64 1))),0,[]⟩,⟨some 11,none,.mov (.t 22),0,[]⟩]))))))) (.seq (.reg [⟨some 23,
 none,.mov (.t 3),0,[]⟩,⟨some 24,none,.call (.c (.fn 63 [])) [.c (.sl [] .nil),.t 23],0,[]⟩,⟨some 6,none,.mov (.t 24),0,[]⟩]) (.seq (.seq (.reg [⟨some 25,none,.mov (.t 0)
 ,0,[]⟩,⟨some 26,none,.lenS (.t 25),0,[]⟩,⟨some 27,none,.mov (.c (.v (.int .i64 0))),0,[]⟩]) (.block 2 (.loop (.seq (.reg [⟨some 28,none,.bin .lss (.t 27) (.t 26),0,[]⟩])
  (.seq (.cond (.t 28) .skip (.exit 2)) (.seq (.block 3 (.seq (.reg [⟨some 29,none,.iaddr 1 (.t 25) (.t 27),0,[]⟩,⟨some 30,none,.load false 1 (.t 29),0,[]⟩,⟨some 8,none,
 .mov (.t 30),0,[]⟩]) (.reg [⟨some 31,none,.mov (.t 6),0,[]⟩,⟨some 32,none,.mov (.t 8),0,[]⟩,⟨some 33,none,.app 1 none (.t 31) (.t 32),0,[]⟩,⟨some 6,none,.mov (.t 33),0,
 []⟩]))) (.reg [⟨some 34,none,.bin .add (.t 27) (.c (.v (.int .i64 1))),0,[]⟩,⟨some 27,none,.mov (.t 34),0,[]⟩]))))))) (.seq (.reg [⟨some 35,none,.mov (.t 6),0,[]⟩,
 ⟨some 2,none,.mov (.t 35),0,[]⟩]) .ret)))))⟩
theorem pf50_is : pfs 50 = some pf50 := by kernel_rfl
def pf62 : PF := ⟨20,[.t 4],.seq (.reg [⟨some 4,none,.mov (.c (.v (.int .i64 0))),0,[]⟩]) (.seq (.reg [⟨some 7,none,.mov (.t 0),0,[]⟩,⟨some 8,none,.call (.c (.fn 77 [])) [.t 7],0,[]⟩,
 ⟨some 5,none,.mov (.t 8),0,[]⟩]) (.seq (.reg [⟨some 9,none,.mov (.t 1),0,[]⟩,⟨some 10,none,.call (.c (.fn 77 [])) [.t 9],0,[]⟩,⟨some 6,none,.mov (.t 10),0,[]⟩])
  (.seq (.seq (.reg [⟨some 11,none,.mov (.t 5),0,[]⟩]) (.cond (.t 11) (.seq (.seq (.reg [⟨some 12,none,.mov (.t 6),0,[]⟩]) (.cond (.t 12) (.seq (.reg [⟨some 4,none,
 .mov (.c (.v (.int .i64 0))),0,[]⟩]) .ret) .skip)) (.seq (.reg [⟨some 4,none,.mov (.c (.v (.int .i64 (-1)))),0,[]⟩]) .ret)) .skip)) (.seq (.seq (.reg [⟨some 13,none,
 .mov (.t 6),0,[]⟩]) (.cond (.t 13) (.seq (.reg [⟨some 4,none,.mov (.c (.v (.int .i64 1))),0,[]⟩]) .ret) .skip)) (.seq (.seq (.reg [⟨some 14,none,.mov (.t 0),0,[]⟩,
 ⟨some 15,none,.mov (.t 1),0,[]⟩,⟨some 16,none,.bin .lss (.t 14) (.t 15),0,[]⟩]) (.cond (.t 16) (.seq (.reg [⟨some 4,none,.mov (.c (.v (.int .i64 (-1)))),0,[]⟩]) .ret)
  .skip)) (.seq (.seq (.reg [⟨some 17,none,.mov (.t 0),0,[]⟩,⟨some 18,none,.mov (.t 1),0,[]⟩,⟨some 19,none,.bin .gtr (.t 17) (.t 18),0,[]⟩]) (.cond (.t 19)
  (.seq (.reg [⟨some 4,none,.mov (.c (.v (.int .i64 1))),0,[]⟩]) .ret) .skip)) (.seq (.reg [⟨some 4,none,.mov (.c (.v (.int .i64 0))),0,[]⟩]) .ret)))))))⟩
theorem pf62_is : pfs 62 = some pf62 := by kernel_rfl
def pf77 : PF := ⟨6,[.t 2],.seq (.reg [⟨some 2,none,.mov (.c (.v (.bool false))),0,[]⟩]) (.seq (.reg [⟨some 3,none,.mov (.t 0),0,[]⟩,⟨some 4,none,.mov (.t 0),0,[]⟩,⟨some 5,none,
 .bin .neq (.t 3) (.t 4),0,[]⟩,⟨some 2,none,.mov (.t 5),0,[]⟩]) .ret)⟩
theorem pf77_is : pfs 77 = some pf77 := by kernel_rfl
end Go.Proofs.Eng.Z
namespace Go.Proofs.Eng
set_option autoImplicit false
structure Cl where
  f : Int
  t : Int
  m : List (List Int)
  deriving DecidableEq
def mx (a b : Int) : Int := if b > a then b else a
def maxL (l : List Int) : Int := l.foldl mx 0
theorem foldl_mx {l : List Int} {a v : Int} : v ≤ l.foldl mx a ↔ v ≤ a ∨ ∃ x ∈ l, v ≤ x := by
  induction l generalizing a with
  | nil => simp
  | cons x l ih =>
    rw [List.foldl_cons, ih]
    have : v ≤ mx a x ↔ v ≤ a ∨ v ≤ x := by unfold mx; split <;> omega
    rw [this]
    simp [or_assoc]
theorem maxL_le {l : List Int} {v : Int} (h : 1 ≤ v) : v ≤ maxL l ↔ ∃ x ∈ l, v ≤ x := by
  unfold maxL
  rw [foldl_mx]
  constructor
  · rintro (h' | h')
    · omega
    · exact h'
  · exact .inr
theorem maxL_nn (l : List Int) : 0 ≤ maxL l := by unfold maxL; rw [foldl_mx]; exact .inl (Int.le_refl _)
def mulE (x y : Int) : Int := if 0 < x ∧ 0 < y then mx x y else 0
theorem mulE_le {x y v : Int} (h : 1 ≤ v) : v ≤ mulE x y ↔ 0 < x ∧ 0 < y ∧ (v ≤ x ∨ v ≤ y) := by
  unfold mulE mx
  split
  · split <;> omega
  · omega
def get2 (m : List (List Int)) (i k : Nat) : Int := (m.getD i []).getD k 0
structure Wm (m : List (List Int)) (r c : Nat) : Prop where
  len : m.length = r
  row : ∀ l ∈ m, l.length = c
  ent : ∀ l ∈ m, ∀ x ∈ l, 0 ≤ x ∧ x ≤ 2
theorem Wm.row_get {m : List (List Int)} {r c i : Nat} (h : Wm m r c) (hi : i < r) : m.getD i [] ∈ m ∧ (m.getD i []).length = c := by
  have h1 : i < m.length := by rw [h.len]; exact hi
  have h2 : m.getD i [] = m[i] := by simp [List.getD, h1]
  rw [h2]
  exact ⟨List.getElem_mem h1, h.row _ (List.getElem_mem h1)⟩
theorem Wm.bnd {m : List (List Int)} {r c : Nat} (h : Wm m r c) (i k : Nat) : 0 ≤ get2 m i k ∧ get2 m i k ≤ 2 := by
  unfold get2
  by_cases hi : i < r
  · obtain ⟨h1, h2⟩ := h.row_get hi
    by_cases hk : k < c
    · have h3 : k < (m.getD i []).length := by rw [h2]; exact hk
      have h4 : (m.getD i []).getD k 0 = (m.getD i [])[k] := by rw [List.getD_eq_getElem?_getD, List.getElem?_eq_getElem h3]; rfl
      rw [h4]
      exact h.ent _ h1 _ (List.getElem_mem h3)
    · rw [List.getD_eq_getElem?_getD (l := m.getD i []), List.getElem?_eq_none (by omega)]; simp
  · rw [List.getD_eq_getElem?_getD (l := m), List.getElem?_eq_none (by rw [h.len]; omega)]; simp
theorem getD_lt {α : Type} {l : List α} {i : Nat} (d : α) (h : i < l.length) : l.getD i d = l[i] := by
  rw [List.getD_eq_getElem?_getD, List.getElem?_eq_getElem h]; rfl
theorem ext2 {m m' : List (List Int)} {r c : Nat} (h : Wm m r c) (h' : Wm m' r c) (he : ∀ i k, i < r → k < c → get2 m i k = get2 m' i k) : m = m' := by
  apply List.ext_getElem (by rw [h.len, h'.len])
  intro i h1 h2
  have hi : i < r := by rw [← h.len]; exact h1
  apply List.ext_getElem (by rw [h.row _ (List.getElem_mem h1), h'.row _ (List.getElem_mem h2)])
  intro k h3 h4
  have hk : k < c := by rw [← h.row _ (List.getElem_mem h1)]; exact h3
  have := he i k hi hk
  unfold get2 at this
  rw [getD_lt [] h1, getD_lt [] h2, getD_lt 0 h3, getD_lt 0 h4] at this
  exact this
def entE (row : List Int) (am : List (List Int)) (k : Nat) : Int := maxL ((List.range am.length).map fun j => mulE (row.getD j 0) (get2 am j k))
def comp (a b : Cl) : Cl := ⟨a.f, b.t, b.m.map fun row => (List.range (a.m.headD []).length).map (entE row a.m)⟩
theorem entE_le {row : List Int} {am : List (List Int)} {k : Nat} {v : Int} (h : 1 ≤ v) : v ≤ entE row am k ↔ ∃ j, j < am.length ∧ 0 < row.getD j 0 ∧ 0 < get2 am j k ∧ (v ≤ row.getD j 0 ∨ v ≤ get2 am j k) := by
  unfold entE
  rw [maxL_le h]
  constructor
  · rintro ⟨x, hx, hv⟩
    obtain ⟨j, hj, rfl⟩ := List.mem_map.1 hx
    rw [mulE_le h] at hv
    exact ⟨j, List.mem_range.1 hj, hv⟩
  · rintro ⟨j, hj, hv⟩
    exact ⟨_, List.mem_map.2 ⟨j, List.mem_range.2 hj, rfl⟩, (mulE_le h).2 hv⟩
theorem Wm.head {m : List (List Int)} {r c : Nat} (h : Wm m r c) (hr : 0 < r) : (m.headD []).length = c := by
  cases m with
  | nil => have := h.len; simp at this; omega
  | cons l m => exact h.row _ (List.mem_cons_self ..)
theorem comp_wm {a b : Cl} {p q r : Nat} (ha : Wm a.m q p) (hb : Wm b.m r q) (hq : 0 < q) : Wm (comp a b).m r p := by
  refine ⟨by simp [comp, hb.len], fun l hl => ?_, fun l hl x hx => ?_⟩
  · obtain ⟨row, _, rfl⟩ := List.mem_map.1 hl
    simpa using ha.head hq
  · obtain ⟨row, hrow, rfl⟩ := List.mem_map.1 hl
    obtain ⟨k, _, rfl⟩ := List.mem_map.1 hx
    refine ⟨maxL_nn _, ?_⟩
    by_cases h3 : 3 ≤ entE row a.m k
    · rw [entE_le (by omega)] at h3
      obtain ⟨j, hj, h1, h2, h3⟩ := h3
      have e1 := (ha.bnd j k).2
      have e2 : row.getD j 0 ≤ 2 := by
        by_cases hj' : j < row.length
        · rw [getD_lt 0 hj']; exact (hb.ent row hrow _ (List.getElem_mem hj')).2
        · rw [List.getD_eq_getElem?_getD, List.getElem?_eq_none (by omega)]; simp
      omega
    · omega
theorem comp_get {a b : Cl} {p q r : Nat} (ha : Wm a.m q p) (hb : Wm b.m r q) (hq : 0 < q) {i k : Nat} (hi : i < r) (hk : k < p) : get2 (comp a b).m i k = entE (b.m.getD i []) a.m k := by
  have h1 : i < b.m.length := by rw [hb.len]; exact hi
  unfold comp get2
  simp only
  rw [getD_lt [] (by simpa using h1), getD_lt [] h1, List.getElem_map, getD_lt 0 (by simp only [List.length_map, List.length_range, ha.head hq]; exact hk), List.getElem_map, List.getElem_range]
theorem comp_le {a b : Cl} {p q r : Nat} (ha : Wm a.m q p) (hb : Wm b.m r q) (hq : 0 < q) {i k : Nat} (hi : i < r) (hk : k < p) {v : Int} (hv : 1 ≤ v) :
    v ≤ get2 (comp a b).m i k ↔ ∃ j, j < q ∧ 0 < get2 b.m i j ∧ 0 < get2 a.m j k ∧ (v ≤ get2 b.m i j ∨ v ≤ get2 a.m j k) := by
  rw [comp_get ha hb hq hi hk, entE_le hv, ha.len]
  rfl
theorem comp_assoc {a b c : Cl} {p q r s : Nat} (ha : Wm a.m q p) (hb : Wm b.m r q) (hc : Wm c.m s r) (hq : 0 < q) (hr : 0 < r) : comp (comp a b) c = comp a (comp b c) := by
  have hab := comp_wm ha hb hq
  have hbc := comp_wm hb hc hr
  have h1 := comp_wm hab hc hr
  have h2 := comp_wm ha hbc hq
  have hm : (comp (comp a b) c).m = (comp a (comp b c)).m := by
    refine ext2 h1 h2 fun i k hi hk => ?_
    have key : ∀ v : Int, 1 ≤ v → (v ≤ get2 (comp (comp a b) c).m i k ↔ v ≤ get2 (comp a (comp b c)).m i k) := by
      intro v hv
      rw [comp_le hab hc hr hi hk hv, comp_le ha hbc hq hi hk hv]
      constructor
      · rintro ⟨j, hj, x1, x2, x3⟩
        obtain ⟨l, hl, y1, y2, y3⟩ := (comp_le ha hb hq hj hk (v := 1) (by omega)).1 x2
        have z : 0 < get2 (comp b c).m i l := (comp_le hb hc hr hi hl (v := 1) (by omega)).2 ⟨j, hj, x1, y1, by omega⟩
        rcases x3 with x3 | x3
        · exact ⟨l, hl, z, y2, .inl ((comp_le hb hc hr hi hl hv).2 ⟨j, hj, x1, y1, .inl x3⟩)⟩
        · obtain ⟨l, hl, y1, y2, y3⟩ := (comp_le ha hb hq hj hk hv).1 x3
          have z : 0 < get2 (comp b c).m i l := (comp_le hb hc hr hi hl (v := 1) (by omega)).2 ⟨j, hj, x1, y1, by omega⟩
          rcases y3 with y3 | y3
          · exact ⟨l, hl, z, y2, .inl ((comp_le hb hc hr hi hl hv).2 ⟨j, hj, x1, y1, .inr y3⟩)⟩
          · exact ⟨l, hl, z, y2, .inr y3⟩
      · rintro ⟨l, hl, x1, x2, x3⟩
        obtain ⟨j, hj, y1, y2, y3⟩ := (comp_le hb hc hr hi hl (v := 1) (by omega)).1 x1
        have z : 0 < get2 (comp a b).m j k := (comp_le ha hb hq hj hk (v := 1) (by omega)).2 ⟨l, hl, y2, x2, by omega⟩
        rcases x3 with x3 | x3
        · obtain ⟨j, hj, y1, y2, y3⟩ := (comp_le hb hc hr hi hl hv).1 x3
          have z : 0 < get2 (comp a b).m j k := (comp_le ha hb hq hj hk (v := 1) (by omega)).2 ⟨l, hl, y2, x2, by omega⟩
          rcases y3 with y3 | y3
          · exact ⟨j, hj, y1, z, .inl y3⟩
          · exact ⟨j, hj, y1, z, .inr ((comp_le ha hb hq hj hk hv).2 ⟨l, hl, y2, x2, .inl y3⟩)⟩
        · exact ⟨j, hj, y1, z, .inr ((comp_le ha hb hq hj hk hv).2 ⟨l, hl, y2, x2, .inr x3⟩)⟩
    have b1 := h1.bnd i k
    have b2 := h2.bnd i k
    have k1 := key 1 (by omega)
    have k2 := key 2 (by omega)
    omega
  show Cl.mk _ _ _ = Cl.mk _ _ _
  exact congrArg _ hm
def cmpS : List Int → List Int → Int
  | [], [] => 0
  | [], _ :: _ => -1
  | _ :: _, [] => 1
  | x :: l, y :: m => if x < y then -1 else if y < x then 1 else cmpS l m
theorem cmpS_self (l : List Int) : cmpS l l = 0 := by
  induction l with
  | nil => rfl
  | cons x l ih => simp [cmpS, ih]
theorem cmpS_eq : ∀ {l m : List Int}, cmpS l m = 0 → l = m
  | [], [], _ => rfl
  | [], _ :: _, h => by simp [cmpS] at h
  | _ :: _, [], h => by simp [cmpS] at h
  | x :: l, y :: m, h => by
    simp only [cmpS] at h
    split at h
    · omega
    · split at h
      · omega
      · rw [cmpS_eq h, show x = y by omega]
theorem cmpS_neg : ∀ {l m : List Int}, cmpS m l = - cmpS l m
  | [], [] => rfl
  | [], _ :: _ => rfl
  | _ :: _, [] => rfl
  | x :: l, y :: m => by
    simp only [cmpS]
    split
    · rw [if_neg (by omega)]
    · split
      · simp
      · exact cmpS_neg
theorem cmpS_val : ∀ (l m : List Int), cmpS l m = -1 ∨ cmpS l m = 0 ∨ cmpS l m = 1
  | [], [] => by simp [cmpS]
  | [], _ :: _ => by simp [cmpS]
  | _ :: _, [] => by simp [cmpS]
  | x :: l, y :: m => by
    simp only [cmpS]
    split
    · simp
    · split
      · simp
      · exact cmpS_val l m
theorem cmpS_trans : ∀ {l m n : List Int}, cmpS l m < 0 → cmpS m n < 0 → cmpS l n < 0
  | [], [], _, h, _ => by simp [cmpS] at h
  | [], _ :: _, [], _, h => by simp [cmpS] at h
  | [], _ :: _, _ :: _, _, _ => by simp [cmpS]
  | _ :: _, [], _, h, _ => by simp [cmpS] at h
  | _ :: _, _ :: _, [], _, h => by simp [cmpS] at h
  | x :: l, y :: m, z :: n, h, h' => by
    simp only [cmpS] at h h' ⊢
    split
    · omega
    · split at h
      · split at h'
        · omega
        · split at h' <;> omega
      · split at h
        · omega
        · split at h'
          · omega
          · split at h'
            · omega
            · rw [if_neg (by omega)]
              exact cmpS_trans h h'
def cmpL : List Int → List Int → Int
  | x :: l, y :: m => if x < y then -1 else if x > y then 1 else cmpL l m
  | _, _ => 0
theorem cmpL_eq : ∀ {l m : List Int}, l.length = m.length → cmpL l m = cmpS l m
  | [], [], _ => rfl
  | [], _ :: _, h => by simp at h
  | _ :: _, [], h => by simp at h
  | x :: l, y :: m, h => by
    simp only [cmpS, cmpL]
    rw [cmpL_eq (by simpa using h)]
def entL (c : Cl) : List Int := c.f :: c.t :: c.m.flatten
def ordR (a b : Cl) : Int := cmpL (a.f :: a.t :: (a.m.take b.m.length).flatten) (b.f :: b.t :: (b.m.take a.m.length).flatten)
def colN (c : Cl) : Nat := (c.m.headD []).length
def rowB (n : Nat) (r : List Int) : Bool := r.length == n && r.all fun x => decide (0 ≤ x) && decide (x ≤ 2)
def formB (c : Cl) : Bool := decide (0 ≤ c.f) && decide (0 ≤ c.t) && decide (1 ≤ c.m.length) && decide (c.m.length ≤ 16) && decide (1 ≤ colN c) && decide (colN c ≤ 16) && c.m.all (rowB (colN c))
def prsC (c : Cl) : List (Int × Int) := [(c.f, (colN c : Nat)), (c.t, (c.m.length : Nat))]
def prs (l : List Cl) : List (Int × Int) := l.flatMap prsC
def consB (l : List (Int × Int)) : Bool := l.all fun p => l.all fun q => p.1 != q.1 || p.2 == q.2
def checkR (l : List Cl) : Int := if l.all formB then if consB (prs l) then 0 else 1 else 3
theorem consB_iff {l : List (Int × Int)} : consB l = true ↔ ∀ p ∈ l, ∀ q ∈ l, p.1 = q.1 → p.2 = q.2 := by
  unfold consB
  simp only [List.all_eq_true, Bool.or_eq_true, bne_iff_ne, beq_iff_eq]
  constructor
  · intro h p hp q hq e
    rcases h p hp q hq with h | h
    · exact absurd e h
    · exact h
  · intro h p hp q hq
    by_cases e : p.1 = q.1
    · exact .inr (h p hp q hq e)
    · exact .inl e
theorem consB_snoc {l : List (Int × Int)} {p : Int × Int} (h : consB l = true) : consB (l ++ [p]) = l.all fun q => q.1 != p.1 || q.2 == p.2 := by
  rw [Bool.eq_iff_iff, consB_iff]
  rw [consB_iff] at h
  simp only [List.all_eq_true, Bool.or_eq_true, bne_iff_ne, beq_iff_eq, List.mem_append, List.mem_singleton]
  constructor
  · intro k q hq
    by_cases e : q.1 = p.1
    · exact .inr (k q (.inl hq) p (.inr rfl) e)
    · exact .inl e
  · rintro k x (hx | rfl) y (hy | rfl) e
    · exact h x hx y hy e
    · rcases k x hx with k | k
      · exact absurd e k
      · exact k
    · rcases k y hy with k | k
      · exact absurd e.symm k
      · exact k.symm
    · rfl
structure Good (ar : Int → Nat) (c : Cl) : Prop where
  f0 : 0 ≤ c.f
  t0 : 0 ≤ c.t
  wm : Wm c.m (ar c.t) (ar c.f)
  r1 : 1 ≤ ar c.t ∧ ar c.t ≤ 16
  c1 : 1 ≤ ar c.f ∧ ar c.f ≤ 16
theorem Good.col {ar : Int → Nat} {c : Cl} (h : Good ar c) : colN c = ar c.f := h.wm.head h.r1.1
theorem Good.form {ar : Int → Nat} {c : Cl} (h : Good ar c) : formB c = true := by
  unfold formB
  simp only [Bool.and_eq_true, decide_eq_true_eq, List.all_eq_true, h.col, h.wm.len]
  refine ⟨⟨⟨⟨⟨⟨h.f0, h.t0⟩, h.r1.1⟩, h.r1.2⟩, h.c1.1⟩, h.c1.2⟩, fun r hr => ?_⟩
  simp only [rowB, Bool.and_eq_true, beq_iff_eq, List.all_eq_true, decide_eq_true_eq]
  exact ⟨h.wm.row r hr, h.wm.ent r hr⟩
theorem form_wm {c : Cl} (h : formB c = true) : 0 ≤ c.f ∧ 0 ≤ c.t ∧ Wm c.m c.m.length (colN c) ∧ 1 ≤ c.m.length ∧ c.m.length ≤ 16 ∧ 1 ≤ colN c ∧ colN c ≤ 16 := by
  unfold formB at h
  simp only [Bool.and_eq_true, decide_eq_true_eq, List.all_eq_true] at h
  obtain ⟨⟨⟨⟨⟨⟨h1, h2⟩, h3⟩, h4⟩, h5⟩, h6⟩, h7⟩ := h
  refine ⟨h1, h2, ⟨rfl, fun r hr => ?_, fun r hr => ?_⟩, h3, h4, h5, h6⟩
  · have := h7 r hr
    simp only [rowB, Bool.and_eq_true, beq_iff_eq] at this
    exact this.1
  · have := h7 r hr
    simp only [rowB, Bool.and_eq_true, beq_iff_eq, List.all_eq_true, decide_eq_true_eq] at this
    exact this.2
theorem check_good {l : List Cl} (h : checkR l = 0) : ∃ ar : Int → Nat, ∀ c ∈ l, Good ar c := by
  unfold checkR at h
  split at h
  · rename_i hf
    split at h
    · rename_i hc
      rw [consB_iff] at hc
      rw [List.all_eq_true] at hf
      refine ⟨fun x => match (prs l).find? (fun p => p.1 == x) with | some p => p.2.toNat | none => 0, fun c hc' => ?_⟩
      obtain ⟨h1, h2, h3, h4, h5, h6, h7⟩ := form_wm (hf c hc')
      have key : ∀ x n, (x, ((n : Nat) : Int)) ∈ prs l → (match (prs l).find? (fun p => p.1 == x) with | some p => p.2.toNat | none => 0) = n := fun x n hx => by
        cases hfd : (prs l).find? (fun p => p.1 == x) with
        | none =>
          rw [List.find?_eq_none] at hfd
          exact absurd (hfd _ hx) (by simp)
        | some p =>
          have e1 := List.find?_some hfd
          have e2 := List.mem_of_find?_eq_some hfd
          have := hc p e2 _ hx (by simpa using e1)
          simp [this]
      have kt := key c.t c.m.length (List.mem_flatMap.2 ⟨c, hc', by simp [prsC]⟩)
      have kf := key c.f (colN c) (List.mem_flatMap.2 ⟨c, hc', by simp [prsC]⟩)
      refine ⟨h1, h2, ?_, ?_, ?_⟩
      · rw [kt, kf]; exact h3
      · rw [kt]; exact ⟨h4, h5⟩
      · rw [kf]; exact ⟨h6, h7⟩
    · omega
  · omega
theorem comp_good {ar : Int → Nat} {a b : Cl} (ha : Good ar a) (hb : Good ar b) (h : a.t = b.f) : Good ar (comp a b) :=
  ⟨ha.f0, hb.t0, comp_wm ha.wm (by rw [h]; exact hb.wm) ha.r1.1, hb.r1, ha.c1⟩
theorem good_assoc {ar : Int → Nat} {a b c : Cl} (ha : Good ar a) (hb : Good ar b) (hc : Good ar c) (h : a.t = b.f) (k : b.t = c.f) : comp (comp a b) c = comp a (comp b c) :=
  comp_assoc ha.wm (by rw [h]; exact hb.wm) (by rw [k]; exact hc.wm) ha.r1.1 hb.r1.1
theorem flm_len {m : List (List Int)} {r c : Nat} (h : Wm m r c) : m.flatten.length = r * c := by
  have : ∀ m : List (List Int), (∀ l ∈ m, l.length = c) → m.flatten.length = m.length * c := by
    intro m
    induction m with
    | nil => intro _; simp
    | cons l m ih =>
      intro h
      rw [List.flatten_cons, List.length_append, ih fun l hl => h l (by simp [hl]), h l (by simp), List.length_cons, Nat.add_mul]; omega
  rw [this m h.row, h.len]
theorem flat_inj {c : Nat} : ∀ {m m' : List (List Int)}, (∀ l ∈ m, l.length = c) → (∀ l ∈ m', l.length = c) → m.length = m'.length → m.flatten = m'.flatten → m = m'
  | [], [], _, _, _, _ => rfl
  | [], _ :: _, _, _, h, _ => by simp at h
  | _ :: _, [], _, _, h, _ => by simp at h
  | l :: m, l' :: m', h, h', hl, e => by
    rw [List.flatten_cons, List.flatten_cons] at e
    obtain ⟨e1, e2⟩ := List.append_inj e (by rw [h l (by simp), h' l' (by simp)])
    rw [e1, flat_inj (fun x hx => h x (by simp [hx])) (fun x hx => h' x (by simp [hx])) (by simpa using hl) e2]
theorem ent_inj {ar : Int → Nat} {a b : Cl} (ha : Good ar a) (hb : Good ar b) (h : entL a = entL b) : a = b := by
  unfold entL at h
  simp only [List.cons.injEq] at h
  obtain ⟨h1, h2, h3⟩ := h
  have := flat_inj (c := ar a.f) ha.wm.row (by rw [h1]; exact hb.wm.row) (by rw [ha.wm.len, hb.wm.len, h2]) h3
  cases a; cases b
  simp only at h1 h2 this
  rw [h1, h2, this]
theorem ordR_eq {ar : Int → Nat} {a b : Cl} (ha : Good ar a) (hb : Good ar b) : ordR a b = cmpS (entL a) (entL b) := by
  unfold ordR entL
  simp only [cmpL, cmpS]
  by_cases h1 : a.f < b.f
  · rw [if_pos h1, if_pos h1]
  · by_cases h2 : a.f > b.f
    · rw [if_neg h1, if_neg h1, if_pos h2, if_pos h2]
    · rw [if_neg h1, if_neg h1, if_neg h2, if_neg h2]
      by_cases h3 : a.t < b.t
      · rw [if_pos h3, if_pos h3]
      · by_cases h4 : a.t > b.t
        · rw [if_neg h3, if_neg h3, if_pos h4, if_pos h4]
        · rw [if_neg h3, if_neg h3, if_neg h4, if_neg h4]
          have ef : a.f = b.f := by omega
          have et : a.t = b.t := by omega
          have el : a.m.length = b.m.length := by rw [ha.wm.len, hb.wm.len, et]
          rw [List.take_of_length_le (by omega), List.take_of_length_le (by omega)]
          exact cmpL_eq (by rw [flm_len ha.wm, flm_len hb.wm, et, ef])
theorem ord_zero {ar : Int → Nat} {a b : Cl} (ha : Good ar a) (hb : Good ar b) : ordR a b = 0 ↔ a = b := by
  rw [ordR_eq ha hb]
  exact ⟨fun h => ent_inj ha hb (cmpS_eq h), fun h => by rw [h, cmpS_self]⟩
def ltC (a b : Cl) : Prop := cmpS (entL a) (entL b) < 0
theorem ltC_irr (a : Cl) : ¬ ltC a a := by unfold ltC; rw [cmpS_self]; omega
theorem ltC_trans {a b c : Cl} (h : ltC a b) (k : ltC b c) : ltC a c := cmpS_trans h k
def insR (l : List Cl) (c : Cl) : List Cl × Bool :=
  if (l.drop (l.takeWhile fun x => decide (ordR x c < 0)).length).head?.any fun x => ordR x c == 0 then (l, false)
  else ((l.takeWhile fun x => decide (ordR x c < 0)) ++ c :: l.drop (l.takeWhile fun x => decide (ordR x c < 0)).length, true)
theorem mem_tw {α : Type} {p : α → Bool} : ∀ {l : List α} {x : α}, x ∈ l.takeWhile p → p x = true
  | [], _, h => by simp at h
  | y :: l, x, h => by
    by_cases hy : p y = true
    · rw [List.takeWhile_cons_of_pos hy] at h
      rcases List.mem_cons.1 h with rfl | h
      · exact hy
      · exact mem_tw h
    · rw [List.takeWhile_cons_of_neg hy] at h; simp at h
theorem dw_head {α : Type} {p : α → Bool} : ∀ {l : List α} {y : α} {m : List α}, l.dropWhile p = y :: m → p y = false
  | [], _, _, h => by simp at h
  | x :: l, y, m, h => by
    by_cases hx : p x = true
    · rw [List.dropWhile_cons_of_pos hx] at h; exact dw_head h
    · rw [List.dropWhile_cons_of_neg hx] at h; cases h; simpa using hx
theorem drop_tw {α : Type} (p : α → Bool) : ∀ (l : List α), l.drop (l.takeWhile p).length = l.dropWhile p
  | [] => rfl
  | x :: l => by
    by_cases h : p x = true
    · rw [List.takeWhile_cons_of_pos h, List.dropWhile_cons_of_pos h]; simpa using drop_tw p l
    · rw [List.takeWhile_cons_of_neg h, List.dropWhile_cons_of_neg h]; rfl
theorem ins_sorted {ar : Int → Nat} {c : Cl} (hc : Good ar c) : ∀ {l : List Cl}, (∀ x ∈ l, Good ar x) → l.Pairwise ltC → (insR l c).1.Pairwise ltC ∧ (∀ x, x ∈ (insR l c).1 ↔ x = c ∨ x ∈ l) ∧ ((insR l c).2 = true ↔ c ∉ l) := by
  intro l hl hs
  unfold insR
  rw [drop_tw]
  have hpre : ∀ x ∈ l.takeWhile (fun x => decide (ordR x c < 0)), x ∈ l ∧ ltC x c := fun x hx => by
    have h1 := List.takeWhile_subset _ hx
    have h2 : decide (ordR x c < 0) = true := mem_tw (p := fun x => decide (ordR x c < 0)) hx
    simp only [decide_eq_true_eq] at h2
    rw [ordR_eq (hl x h1) hc] at h2
    exact ⟨h1, h2⟩
  have hcat : l.takeWhile (fun x => decide (ordR x c < 0)) ++ l.dropWhile (fun x => decide (ordR x c < 0)) = l := List.takeWhile_append_dropWhile
  cases hd : l.dropWhile (fun x => decide (ordR x c < 0)) with
  | nil =>
    rw [hd, List.append_nil] at hcat
    simp only [List.head?_nil, Option.any_none, Bool.false_eq_true, if_false]
    rw [hcat] at hpre ⊢
    refine ⟨?_, fun x => by simp [or_comm], ?_⟩
    · rw [List.pairwise_append]
      exact ⟨hs, by simp, fun x hx y hy => by simp at hy; subst hy; exact (hpre x hx).2⟩
    · simp only [true_iff]
      intro hm
      exact ltC_irr c (hpre c hm).2
  | cons y l2 =>
    have hy : ¬ ordR y c < 0 := by
      have := dw_head hd
      simpa using this
    rw [hd] at hcat
    have hyl : y ∈ l := by rw [← hcat]; simp
    rw [ordR_eq (hl y hyl) hc] at hy
    rw [← hcat, List.pairwise_append] at hs
    obtain ⟨s1, s2, s3⟩ := hs
    simp only [List.head?_cons, Option.any_some, beq_iff_eq]
    by_cases h0 : ordR y c = 0
    · rw [if_pos h0]
      have hyc := (ord_zero (hl y hyl) hc).1 h0
      refine ⟨by rw [← hcat, List.pairwise_append]; exact ⟨s1, s2, s3⟩, fun x => ⟨.inr, ?_⟩, ?_⟩
      · rintro (rfl | h)
        · rw [← hyc]; exact hyl
        · exact h
      · simp only [Bool.false_eq_true, false_iff]
        intro h
        exact h (hyc ▸ hyl)
    · rw [if_neg h0]
      have hcy : ltC c y := by
        unfold ltC
        rw [cmpS_neg]
        rw [ordR_eq (hl y hyl) hc] at h0
        have := cmpS_val (entL y) (entL c)
        omega
      have hc2 : ∀ z ∈ l2, ltC c z := fun z hz => ltC_trans hcy ((List.pairwise_cons.1 s2).1 z hz)
      refine ⟨?_, fun x => ?_, ?_⟩
      · rw [List.pairwise_append]
        refine ⟨s1, List.pairwise_cons.2 ⟨fun z hz => ?_, s2⟩, fun x hx z hz => ?_⟩
        · rcases List.mem_cons.1 hz with rfl | hz
          · exact hcy
          · exact hc2 z hz
        · rcases List.mem_cons.1 hz with rfl | hz
          · exact (hpre x hx).2
          · exact s3 x hx z hz
      · have h : x ∈ l ↔ x ∈ l.takeWhile (fun x => decide (ordR x c < 0)) ∨ x ∈ y :: l2 := by
          rw [← List.mem_append, hcat]
        rw [h]
        simp only [List.mem_append, List.mem_cons]
        constructor
        · rintro (h | h | h | h)
          · exact .inr (.inl h)
          · exact .inl h
          · exact .inr (.inr (.inl h))
          · exact .inr (.inr (.inr h))
        · rintro (h | h | h | h)
          · exact .inr (.inl h)
          · exact .inl h
          · exact .inr (.inr (.inl h))
          · exact .inr (.inr (.inr h))
      · simp only [true_iff]
        intro hm
        rw [← hcat, List.mem_append] at hm
        rcases hm with hm | hm
        · exact ltC_irr c (hpre c hm).2
        · rcases List.mem_cons.1 hm with h | h
          · exact ltC_irr c (by rw [← h] at hcy; exact h ▸ hcy)
          · exact ltC_irr c (hc2 c h)
theorem sorted_uniq : ∀ {l m : List Cl}, l.Pairwise ltC → m.Pairwise ltC → (∀ x, x ∈ l ↔ x ∈ m) → l = m
  | [], [], _, _, _ => rfl
  | [], y :: m, _, _, h => by have := (h y).2 (by simp); simp at this
  | x :: l, [], _, _, h => by have := (h x).1 (by simp); simp at this
  | x :: l, y :: m, hs, ht, h => by
    rw [List.pairwise_cons] at hs ht
    have e : x = y := by
      rcases List.mem_cons.1 ((h x).1 (by simp)) with e | e
      · exact e
      · rcases List.mem_cons.1 ((h y).2 (by simp)) with e' | e'
        · exact e'.symm
        · exact absurd (ltC_trans (ht.1 x e) (hs.1 y e')) (ltC_irr y)
    subst e
    rw [sorted_uniq hs.2 ht.2 fun z => ?_]
    constructor
    · intro hz
      rcases List.mem_cons.1 ((h z).1 (by simp [hz])) with e | e
      · subst e; exact absurd (hs.1 z hz) (ltC_irr z)
      · exact e
    · intro hz
      rcases List.mem_cons.1 ((h z).2 (by simp [hz])) with e | e
      · subst e; exact absurd (ht.1 z hz) (ltC_irr z)
      · exact e
def addQ (q : List Cl) (c : Cl) : List Cl := if c ∈ q then q else q ++ [c]
def rndQ (first : List Cl) (q : List Cl) (x : Cl) : List Cl := first.foldl (fun q d => if x.t = d.f then addQ q (comp x d) else q) q
def bfs (first : List Cl) : Nat → Nat → List Cl → Option (List Cl)
  | 0, _, _ => none
  | k + 1, n, q => match q[n]? with
    | none => if q.length > 2000 then none else some q
    | some x => if q.length > 2000 then none else bfs first k (n + 1) (rndQ first q x)
def dedup (l : List Cl) : List Cl := l.foldl addQ []
def srt (q : List Cl) : List Cl := q.foldl (fun l c => (insR l c).1) []
def cloQ (calls : List Cl) : Option (List Cl) := bfs (dedup calls) 2003 0 (dedup calls)
theorem addQ_mem {q : List Cl} {c x : Cl} : x ∈ addQ q c ↔ x ∈ q ∨ x = c := by
  unfold addQ
  split
  · rename_i h
    constructor
    · exact .inl
    · rintro (h' | rfl)
      · exact h'
      · exact h
  · simp
theorem addQ_nodup {q : List Cl} {c : Cl} (h : q.Nodup) : (addQ q c).Nodup := by
  unfold addQ
  split
  · exact h
  · rename_i hc
    rw [List.nodup_append]
    exact ⟨h, by simp, fun a ha b hb e => by simp at hb; subst hb; exact hc (e ▸ ha)⟩
theorem addQ_pre (q : List Cl) (c : Cl) : q <+: addQ q c := by
  unfold addQ
  split
  · exact List.prefix_refl _
  · exact List.prefix_append _ _
theorem addQ_len (q : List Cl) (c : Cl) : (addQ q c).length ≤ q.length + 1 := by
  unfold addQ
  split
  · omega
  · simp
theorem dedup_aux : ∀ (l q : List Cl), q.Nodup → (l.foldl addQ q).Nodup ∧ (∀ x, x ∈ l.foldl addQ q ↔ x ∈ q ∨ x ∈ l) ∧ (l.foldl addQ q).length ≤ q.length + l.length
  | [], q, h => ⟨h, by simp, by simp⟩
  | c :: l, q, h => by
    obtain ⟨h1, h2, h3⟩ := dedup_aux l (addQ q c) (addQ_nodup h)
    refine ⟨h1, fun x => ?_, ?_⟩
    · rw [List.foldl_cons, h2, addQ_mem, List.mem_cons, or_assoc]
    · have := addQ_len q c
      rw [List.foldl_cons, List.length_cons]; omega
theorem dedup_nodup (l : List Cl) : (dedup l).Nodup := (dedup_aux l [] (by simp)).1
theorem dedup_mem {l : List Cl} {x : Cl} : x ∈ dedup l ↔ x ∈ l := by simpa [dedup] using (dedup_aux l [] (by simp)).2.1 x
theorem rndQ_aux (x : Cl) : ∀ (first q : List Cl), q.Nodup → (rndQ first q x).Nodup ∧ (∀ y, y ∈ rndQ first q x ↔ y ∈ q ∨ ∃ d ∈ first, x.t = d.f ∧ y = comp x d) ∧ q <+: rndQ first q x ∧ (rndQ first q x).length ≤ q.length + first.length
  | [], q, h => ⟨h, by simp [rndQ], List.prefix_refl _, by simp [rndQ]⟩
  | d :: first, q, h => by
    have e : rndQ (d :: first) q x = rndQ first (if x.t = d.f then addQ q (comp x d) else q) x := rfl
    rw [e]
    by_cases hd : x.t = d.f
    · rw [if_pos hd]
      obtain ⟨h1, h2, h3, h4⟩ := rndQ_aux x first (addQ q (comp x d)) (addQ_nodup h)
      refine ⟨h1, fun y => ?_, (addQ_pre _ _).trans h3, ?_⟩
      · rw [h2, addQ_mem]
        simp only [List.mem_cons, exists_eq_or_imp, hd, true_and, or_assoc]
      · have := addQ_len q (comp x d)
        rw [List.length_cons]; omega
    · rw [if_neg hd]
      obtain ⟨h1, h2, h3, h4⟩ := rndQ_aux x first q h
      refine ⟨h1, fun y => ?_, h3, by rw [List.length_cons]; omega⟩
      rw [h2]
      simp only [List.mem_cons, exists_eq_or_imp, hd, false_and, false_or]
inductive Gen (first : List Cl) : Cl → Prop where
  | base {d : Cl} (h : d ∈ first) : Gen first d
  | step {x d : Cl} (hx : Gen first x) (h : d ∈ first) (e : x.t = d.f) : Gen first (comp x d)
theorem bfs_spec {first : List Cl} : ∀ {k n : Nat} {q r : List Cl}, bfs first k n q = some r → q.Nodup → (∀ i x, i < n → q[i]? = some x → ∀ d ∈ first, x.t = d.f → comp x d ∈ q) → (∀ x ∈ q, Gen first x) →
    r.Nodup ∧ (∀ x ∈ q, x ∈ r) ∧ (∀ x ∈ r, ∀ d ∈ first, x.t = d.f → comp x d ∈ r) ∧ r.length ≤ 2000 ∧ ∀ x ∈ r, Gen first x
  | 0, _, _, _, h, _, _, _ => by simp [bfs] at h
  | k + 1, n, q, r, h, hn, hc, hg => by
    simp only [bfs] at h
    split at h
    · rename_i hq
      split at h
      · simp at h
      · simp only [Option.some.injEq] at h
        subst h
        have hlen : q.length ≤ n := List.getElem?_eq_none_iff.1 hq
        refine ⟨hn, fun x hx => hx, fun x hx d hd e => ?_, by omega, hg⟩
        obtain ⟨i, hi, hix⟩ := List.getElem_of_mem hx
        exact hc i x (by omega) (by rw [List.getElem?_eq_getElem hi, hix]) d hd e
    · rename_i x hx
      split at h
      · simp at h
      · obtain ⟨h1, h2, h3, h4⟩ := rndQ_aux x first q hn
        have hxq : x ∈ q := List.mem_of_getElem? hx
        suffices hh : (∀ i y, i < n + 1 → (rndQ first q x)[i]? = some y → ∀ d ∈ first, y.t = d.f → comp y d ∈ rndQ first q x) ∧ ∀ y ∈ rndQ first q x, Gen first y by
          obtain ⟨r1, r2, r3, r4, r5⟩ := bfs_spec h h1 hh.1 hh.2
          exact ⟨r1, fun y hy => r2 y (h3.subset hy), r3, r4, r5⟩
        refine ⟨fun i y hi hy d hd e => ?_, fun y hy => ?_⟩
        · rw [h2]
          rcases Nat.lt_or_ge i n with hin | hin
          · have hlt : n < q.length := (List.getElem?_eq_some_iff.1 hx).1
            have : q[i]? = some y := by
              rw [← hy]
              obtain ⟨s, hs⟩ := h3
              rw [← hs, List.getElem?_append_left (by omega)]
            exact .inl (hc i y hin this d hd e)
          · have hi' : i = n := by omega
            subst hi'
            have hlt : i < q.length := (List.getElem?_eq_some_iff.1 hx).1
            have : q[i]? = some y := by
              rw [← hy]
              obtain ⟨s, hs⟩ := h3
              rw [← hs, List.getElem?_append_left hlt]
            rw [hx] at this; cases this
            exact .inr ⟨d, hd, e, rfl⟩
        · rw [h2] at hy
          rcases hy with hy | ⟨d, hd, e, rfl⟩
          · exact hg y hy
          · exact .step (hg x hxq) hd e
structure Clo (ar : Int → Nat) (calls q : List Cl) : Prop where
  nd : q.Nodup
  sub : ∀ x ∈ calls, x ∈ q
  cl : ∀ x ∈ q, ∀ d ∈ calls, x.t = d.f → comp x d ∈ q
  len : q.length ≤ 2000
  gen : ∀ x ∈ q, Gen calls x
  good : ∀ x ∈ q, Good ar x
theorem gen_good {ar : Int → Nat} {l : List Cl} (h : ∀ c ∈ l, Good ar c) {x : Cl} (hx : Gen l x) : Good ar x := by
  induction hx with
  | base hd => exact h _ hd
  | step hx hd e ih => exact comp_good ih (h _ hd) e
theorem gen_sub {l m : List Cl} (h : ∀ c ∈ l, c ∈ m) {x : Cl} (hx : Gen l x) : Gen m x := by
  induction hx with
  | base hd => exact .base (h _ hd)
  | step hx hd e ih => exact .step ih (h _ hd) e
theorem clo_of {ar : Int → Nat} {calls q : List Cl} (hg : ∀ c ∈ calls, Good ar c) (h : cloQ calls = some q) : Clo ar calls q := by
  obtain ⟨h1, h2, h3, h4, h5⟩ := bfs_spec h (dedup_nodup calls) (fun i x hi => by omega) (fun x hx => .base hx)
  have h6 : ∀ x ∈ q, Gen calls x := fun x hx => gen_sub (fun c hc => dedup_mem.1 hc) (h5 x hx)
  exact ⟨h1, fun x hx => h2 x (dedup_mem.2 hx), fun x hx d hd e => h3 x hx d (dedup_mem.2 hd) e, h4, h6, fun x hx => gen_good hg (h6 x hx)⟩
theorem Clo.comp {ar : Int → Nat} {calls q : List Cl} (h : Clo ar calls q) (hg : ∀ c ∈ calls, Good ar c) {x y : Cl} (hx : x ∈ q) (hy : Gen calls y) (e : x.t = y.f) : Go.Proofs.Eng.comp x y ∈ q := by
  induction hy with
  | base hd => exact h.cl x hx _ hd e
  | @step y d hy hd e' ih =>
    have h1 := ih e
    have := h.cl _ h1 d hd e'
    rw [good_assoc (h.good x hx) (gen_good hg hy) (hg d hd) e e'] at this
    exact this
theorem Clo.comp' {ar : Int → Nat} {calls q : List Cl} (h : Clo ar calls q) (hg : ∀ c ∈ calls, Good ar c) {x y : Cl} (hx : x ∈ q) (hy : y ∈ q) (e : x.t = y.f) : Go.Proofs.Eng.comp x y ∈ q := h.comp hg hx (h.gen y hy) e
theorem srt_aux {ar : Int → Nat} : ∀ {q l : List Cl}, (∀ x ∈ q, Good ar x) → (∀ x ∈ l, Good ar x) → l.Pairwise ltC → (q.foldl (fun l c => (insR l c).1) l).Pairwise ltC ∧ ∀ x, x ∈ q.foldl (fun l c => (insR l c).1) l ↔ x ∈ l ∨ x ∈ q
  | [], l, _, _, h => ⟨h, by simp⟩
  | c :: q, l, hq, hl, h => by
    obtain ⟨h1, h2, _⟩ := ins_sorted (hq c (by simp)) hl h
    obtain ⟨h3, h4⟩ := srt_aux (q := q) (fun x hx => hq x (by simp [hx])) (fun x hx => by
      rcases (h2 x).1 hx with rfl | hx
      · exact hq x (by simp)
      · exact hl x hx) h1
    refine ⟨h3, fun x => ?_⟩
    rw [List.foldl_cons, h4, h2, List.mem_cons, or_assoc, or_left_comm]
theorem srt_sorted {ar : Int → Nat} {q : List Cl} (hq : ∀ x ∈ q, Good ar x) : (srt q).Pairwise ltC ∧ ∀ x, x ∈ srt q ↔ x ∈ q := by
  have := srt_aux hq (l := []) (by simp) (by simp)
  simpa [srt] using this
theorem ltC_nodup {l : List Cl} (h : l.Pairwise ltC) : l.Nodup := by
  rw [List.nodup_iff_pairwise_ne]
  exact h.imp fun {a b} (h : ltC a b) (e : a = b) => ltC_irr b (by rw [e] at h; exact h)
theorem nodup_len {α : Type} [DecidableEq α] : ∀ {l m : List α}, l.Nodup → (∀ x ∈ l, x ∈ m) → l.length ≤ m.length
  | [], _, _, _ => by simp
  | x :: l, m, h, hs => by
    rw [List.nodup_cons] at h
    have hx : x ∈ m := hs x (by simp)
    have := nodup_len (m := m.erase x) h.2 fun y hy => (List.mem_erase_of_ne (by rintro rfl; exact h.1 hy)).2 (hs y (by simp [hy]))
    rw [List.length_erase_of_mem hx] at this
    have hp : 0 < m.length := List.length_pos_of_mem hx
    rw [List.length_cons]; omega
theorem srt_len {ar : Int → Nat} {q : List Cl} (hq : ∀ x ∈ q, Good ar x) (hn : q.Nodup) : (srt q).length = q.length := by
  obtain ⟨h1, h2⟩ := srt_sorted hq
  exact Nat.le_antisymm (nodup_len (ltC_nodup h1) fun x hx => (h2 x).1 hx) (nodup_len hn fun x hx => (h2 x).2 hx)
def pw (c : Cl) : Nat → Cl
  | 0 => c
  | n + 1 => comp (pw c n) c
theorem pw_ft (c : Cl) : ∀ n, (pw c n).f = c.f ∧ (pw c n).t = c.t
  | 0 => ⟨rfl, rfl⟩
  | n + 1 => ⟨(pw_ft c n).1, rfl⟩
theorem pw_good {ar : Int → Nat} {c : Cl} (hc : Good ar c) (e : c.f = c.t) : ∀ n, Good ar (pw c n)
  | 0 => hc
  | n + 1 => comp_good (pw_good hc e n) hc (by rw [(pw_ft c n).2, e])
theorem pw_add {ar : Int → Nat} {c : Cl} (hc : Good ar c) (e : c.f = c.t) (i : Nat) : ∀ j, comp (pw c i) (pw c j) = pw c (i + j + 1)
  | 0 => rfl
  | j + 1 => by
    show comp (pw c i) (comp (pw c j) c) = comp (pw c (i + j + 1)) c
    rw [← good_assoc (pw_good hc e i) (pw_good hc e j) hc (by rw [(pw_ft c i).2, (pw_ft c j).1, e]) (by rw [(pw_ft c j).2, e]), pw_add hc e i j]
theorem pw_period {c : Cl} {a p : Nat} (h : pw c a = pw c (a + p)) : ∀ n, a ≤ n → pw c n = pw c (n + p) := by
  intro n hn
  obtain ⟨k, rfl⟩ : ∃ k, n = a + k := ⟨n - a, by omega⟩
  clear hn
  induction k with
  | zero => exact h
  | succ k ih =>
    show comp (pw c (a + k)) c = _
    rw [ih, show a + (k + 1) + p = a + k + p + 1 by omega]
    rfl
theorem pw_periods {c : Cl} {a p : Nat} (h : pw c a = pw c (a + p)) (n : Nat) (hn : a ≤ n) : ∀ k, pw c n = pw c (n + p * k)
  | 0 => rfl
  | k + 1 => by
    rw [pw_periods h n hn k, pw_period h (n + p * k) (by omega), Nat.mul_add, Nat.mul_one, Nat.add_assoc]
theorem pw_idem {ar : Int → Nat} {c : Cl} (hc : Good ar c) (e : c.f = c.t) {q : List Cl} {N : Nat} (hq : q.length ≤ N) (h : ∀ n, pw c n ∈ q) : ∃ n, n < N ∧ comp (pw c n) (pw c n) = pw c n := by
  have hdup : ∃ a b, a < b ∧ b ≤ N ∧ pw c a = pw c b := by
    refine Classical.byContradiction fun hno => ?_
    have hnd : ((List.range (N + 1)).map (pw c)).Nodup := by
      rw [List.nodup_iff_pairwise_ne, List.pairwise_map]
      refine List.Pairwise.imp_of_mem ?_ List.pairwise_lt_range
      intro a b ha hb hab hpe
      exact hno ⟨a, b, hab, by have := List.mem_range.1 hb; omega, hpe⟩
    have := nodup_len hnd (m := q) fun x hx => by
      obtain ⟨n, _, rfl⟩ := List.mem_map.1 hx
      exact h n
    simp at this
    omega
  obtain ⟨a, b, hab, hbN, hpe⟩ := hdup
  obtain ⟨p, rfl⟩ : ∃ p, b = a + p := ⟨b - a, by omega⟩
  have hp : 0 < p := by omega
  have hdm := Nat.div_add_mod a p
  have hml := Nat.mod_lt a hp
  have hmul : p * (a / p + 1) = p * (a / p) + p := by rw [Nat.mul_add, Nat.mul_one]
  obtain ⟨n, hn⟩ : ∃ n, n + 1 = p * (a / p + 1) := ⟨p * (a / p + 1) - 1, by omega⟩
  refine ⟨n, by omega, ?_⟩
  rw [pw_add hc e, pw_periods hpe n (by omega) (a / p + 1), Nat.add_assoc n n 1, hn]
def decB (c : Cl) : Bool := (List.range c.m.length).any fun i => get2 c.m i i == 2
def badB (c : Cl) : Bool := decide (c.f = c.t) && !decB c && decide (comp c c = c)
theorem Clo.pw {ar : Int → Nat} {calls q : List Cl} (h : Clo ar calls q) (hg : ∀ c ∈ calls, Good ar c) {c : Cl} (hc : c ∈ q) (e : c.f = c.t) : ∀ n, Go.Proofs.Eng.pw c n ∈ q
  | 0 => hc
  | n + 1 => h.comp' hg (h.pw hg hc e n) hc (by rw [(pw_ft c n).2, e])
theorem cycle_dec {ar : Int → Nat} {calls q : List Cl} (h : Clo ar calls q) (hg : ∀ c ∈ calls, Good ar c) (ht : ∀ x ∈ q, badB x = false) {c : Cl} (hc : c ∈ q) (e : c.f = c.t) : ∃ n, n < 2000 ∧ comp (pw c n) (pw c n) = pw c n ∧ ∀ n, comp (pw c n) (pw c n) = pw c n → decB (pw c n) = true := by
  obtain ⟨n, h1, h2⟩ := pw_idem (h.good c hc) e h.len (h.pw hg hc e)
  refine ⟨n, h1, h2, fun k hk => ?_⟩
  have := ht _ (h.pw hg hc e k)
  unfold badB at this
  rw [decide_eq_true (by rw [(pw_ft c k).1, (pw_ft c k).2, e]), decide_eq_true hk] at this
  simpa using this
def FitW (c : Cl) (v u : List Int) : Prop := ∀ i k, i < u.length → k < v.length → (1 ≤ get2 c.m i k → u.getD i 0 ≤ v.getD k 0) ∧ (2 ≤ get2 c.m i k → u.getD i 0 < v.getD k 0)
theorem fitW_comp {ar : Int → Nat} {a b : Cl} {v u w : List Int} (ha : Good ar a) (hb : Good ar b) (e : a.t = b.f) (hv : v.length = ar a.f) (hu : u.length = ar a.t) (hw : w.length = ar b.t) (h1 : FitW a v u) (h2 : FitW b u w) : FitW (comp a b) v w := by
  intro i k hi hk
  have hbw : Wm b.m (ar b.t) (ar a.t) := by rw [e]; exact hb.wm
  constructor
  · intro h
    rw [comp_le ha.wm hbw ha.r1.1 (by omega) (by omega) (by omega)] at h
    obtain ⟨j, hj, x1, x2, _⟩ := h
    have y1 := (h1 j k (by omega) hk).1 x2
    have y2 := (h2 i j hi (by omega)).1 x1
    omega
  · intro h
    rw [comp_le ha.wm hbw ha.r1.1 (by omega) (by omega) (by omega)] at h
    obtain ⟨j, hj, x1, x2, x3⟩ := h
    have y1 := (h1 j k (by omega) hk).1 x2
    have y2 := (h2 i j hi (by omega)).1 x1
    rcases x3 with x3 | x3
    · have := (h2 i j hi (by omega)).2 x3; omega
    · have := (h1 j k (by omega) hk).2 x3; omega
theorem fitW_pw {ar : Int → Nat} {c : Cl} (hc : Good ar c) (e : c.f = c.t) {v : List Int} (hv : v.length = ar c.f) (h : FitW c v v) : ∀ n, FitW (pw c n) v v
  | 0 => h
  | n + 1 => fitW_comp (pw_good hc e n) hc (by rw [(pw_ft c n).2, e]) (by rw [(pw_ft c n).1]; exact hv) (by rw [(pw_ft c n).2, ← e]; exact hv) (by rw [← e]; exact hv) (fitW_pw hc e hv h n) h
theorem no_cycle {ar : Int → Nat} {calls q : List Cl} (h : Clo ar calls q) (hg : ∀ c ∈ calls, Good ar c) (ht : ∀ x ∈ q, badB x = false) {c : Cl} (hc : c ∈ q) (e : c.f = c.t) {v : List Int} (hv : v.length = ar c.f) (hf : FitW c v v) : False := by
  obtain ⟨n, _, h2, h3⟩ := cycle_dec h hg ht hc e
  have hd := h3 n h2
  unfold decB at hd
  obtain ⟨i, hi, hd⟩ := List.any_eq_true.1 hd
  have hpg := pw_good (h.good c hc) e n
  have hi' : i < v.length := by
    have := List.mem_range.1 hi
    rw [hpg.wm.len, (pw_ft c n).2, ← e] at this
    omega
  have := (fitW_pw (h.good c hc) e hv hf n i i hi' hi').2 (by simp at hd; omega)
  omega
def vR (c : Cl) (j : Nat) : Nat := (List.range c.m.length).countP fun i => get2 c.m i j == 2
theorem refused_sizes {ar : Int → Nat} {c : Cl} (hc : Good ar c) (hb : badB c = true) : c.f = c.t ∧ (∀ i j, i < c.m.length → j < c.m.length → (get2 c.m i j = 2 → vR c i < vR c j) ∧ (get2 c.m i j = 1 → vR c i ≤ vR c j)) ∧ ∀ j, j < c.m.length → vR c j < c.m.length := by
  unfold badB at hb
  simp only [Bool.and_eq_true, decide_eq_true_eq, Bool.not_eq_true'] at hb
  obtain ⟨⟨e, hd⟩, hi⟩ := hb
  have hlen : c.m.length = ar c.t := hc.wm.len
  have hw : Wm c.m c.m.length c.m.length := by
    have := hc.wm
    rw [e, ← hlen] at this
    exact this
  have hpos : 0 < c.m.length := by rw [hlen]; exact hc.r1.1
  have hmem : ∀ {v : Int}, 1 ≤ v → ∀ i j k, i < c.m.length → j < c.m.length → k < c.m.length → 0 < get2 c.m i j → 0 < get2 c.m j k → (v ≤ get2 c.m i j ∨ v ≤ get2 c.m j k) → v ≤ get2 c.m i k := by
    intro v hv i j k h1 h2 h3 h4 h5 h6
    have := (comp_le hw hw hpos h1 h3 hv).2 ⟨j, h2, h4, h5, h6⟩
    rw [hi] at this
    exact this
  have hdiag : ∀ i, i < c.m.length → get2 c.m i i ≠ 2 := by
    intro i h1 h2
    have : decB c = true := by
      unfold decB
      rw [List.any_eq_true]
      exact ⟨i, List.mem_range.2 h1, by simpa using h2⟩
    rw [this] at hd; cases hd
  have hmono : ∀ i j, i < c.m.length → j < c.m.length → 1 ≤ get2 c.m i j → ∀ k ∈ List.range c.m.length, (get2 c.m k i == 2) = true → (get2 c.m k j == 2) = true := by
    intro i j h1 h2 h3 k hk h4
    have hk := List.mem_range.1 hk
    simp only [beq_iff_eq] at h4 ⊢
    have := hmem (v := 2) (by omega) k i j hk h1 h2 (by omega) (by omega) (.inl (by omega))
    have := (hw.bnd k j).2
    omega
  refine ⟨e, fun i j h1 h2 => ⟨fun h3 => ?_, fun h3 => ?_⟩, fun j h1 => ?_⟩
  · have hle : ∀ (l : List Nat) (p q : Nat → Bool), (∀ x ∈ l, p x = true → q x = true) → i ∈ l → p i = false → q i = true → l.countP p < l.countP q := by
      intro l p q hpq
      induction l with
      | nil => intro h; simp at h
      | cons x l ih =>
        intro hm hp hq
        have ih' : l.countP p ≤ l.countP q := List.countP_mono_left fun y hy => hpq y (by simp [hy])
        rw [List.countP_cons, List.countP_cons]
        by_cases hx : x = i
        · subst hx
          rw [hp, hq]; simp; omega
        · have := ih (fun y hy => hpq y (by simp [hy])) (by rcases List.mem_cons.1 hm with h | h; exact absurd h.symm hx; exact h) hp hq
          have h5 := hpq x (by simp)
          by_cases h6 : p x = true
          · rw [h6, h5 h6]; simp; omega
          · simp only [h6]; split <;> simp_all <;> omega
    exact hle _ _ _ (hmono i j h1 h2 (by omega)) (List.mem_range.2 h1) (by simpa using hdiag i h1) (by simpa using h3)
  · exact List.countP_mono_left (hmono i j h1 h2 (by omega))
  · unfold vR
    have h2 : (List.range c.m.length).countP (fun i => get2 c.m i j == 2) ≠ (List.range c.m.length).length := by
      intro h
      have := List.countP_eq_length.1 h j (List.mem_range.2 h1)
      exact hdiag j h1 (by simpa using this)
    have h3 := List.countP_le_length (p := fun i => get2 c.m i j == 2) (l := List.range c.m.length)
    rw [List.length_range] at h2 h3
    omega
open Go Go.Proofs
set_option maxRecDepth 100000
def Tl.fast : Tl → Bool
  | .al => true
  | .cap _ => true
  | .nil => true
  | _ => false
theorem Tl.fast.pure {t : Tl} (h : t.fast = true) : t.pure = true := by cases t <;> first | rfl | cases h
def RowIs (r : List Int) (a : AV) : Prop := ∃ t, a = .sl (ints r) t ∧ t.fast = true ∧ r.length ≤ lenB ∧ ∀ n ∈ r, in64 n
theorem RowIs.of {r : List Int} {a : AV} (h : RowIs r a) : ∃ t, a = .sl (ints r) t ∧ t.fast = true ∧ r.length ≤ lenB ∧ ∀ n ∈ r, in64 n := h
theorem RowIs.mk {r : List Int} {t : Tl} (h2 : t.fast = true) (h3 : r.length ≤ lenB) (h4 : ∀ n ∈ r, in64 n) : RowIs r (.sl (ints r) t) := ⟨t, rfl, h2, h3, h4⟩
theorem rowPure {r : List Int} {a : AV} (h : RowIs r a) : pureAV a = true := by obtain ⟨t, rfl, h2, _⟩ := h.of; simp [pv_sl, Tl.fast.pure h2, ints_pure]
theorem rowsPure {l : List (List Int)} {al : List AV} (h : LIs RowIs l al) : pureAVs al = true := h.pure fun _ _ h => rowPure h
theorem rows_all : ∀ {l : List (List Int)} {al : List AV}, LIs RowIs l al → (al.all fun x => x.cells.length == 1) = true
  | [], [], _ => rfl
  | [], _ :: _, h => by simp [LIs] at h
  | _ :: _, [], h => by simp [LIs] at h
  | x :: l, a :: al, h => by
    simp only [LIs] at h
    obtain ⟨t, rfl, _⟩ := h.1.of
    rw [List.all_cons, rows_all h.2]; rfl
theorem row_get {l : List (List Int)} {al : List AV} {i : Nat} (h : LIs RowIs l al) (hi : i < al.length) : ∃ x t, l[i]? = some x ∧ x ∈ l ∧ al[i]? = some (.sl (ints x) t) ∧ t.fast = true ∧ x.length ≤ lenB ∧ ∀ n ∈ x, in64 n := by
  obtain ⟨x, a, h1, _, h3, h4, h5⟩ := LIs.at h hi
  obtain ⟨t, rfl, h6, h7, h8⟩ := h5.of
  exact ⟨x, t, h1, h3, h4, h6, h7, h8⟩
def ClIs (c : Cl) (a : AV) : Prop := ∃ al t, a = .agg [.int c.f, .int c.t, .sl al t] ∧ LIs RowIs c.m al ∧ t.fast = true ∧ al.length ≤ lenB ∧ in64 c.f ∧ in64 c.t
theorem ClIs.of {c : Cl} {a : AV} (h : ClIs c a) : ∃ al t, a = .agg [.int c.f, .int c.t, .sl al t] ∧ LIs RowIs c.m al ∧ t.fast = true ∧ al.length ≤ lenB ∧ in64 c.f ∧ in64 c.t := h
theorem clAgg : AggR ClIs 3 where
  cells h := by obtain ⟨al, t, rfl, _⟩ := h.of; exact ⟨_, rfl, rfl, rfl⟩
  pure h := by obtain ⟨al, t, rfl, h1, h2, _⟩ := h.of; simp [pv_agg, pvs_cons, pvs_nil, pv_v, pv_sl, Tl.fast.pure h2, rowsPure h1]
theorem ClIs.pure {c : Cl} {a : AV} (h : ClIs c a) : pureAV a = true := clAgg.pure h
theorem clsPure {l : List Cl} {al : List AV} (h : LIs ClIs l al) : pureAVs al = true := h.pure fun _ _ h => h.pure
theorem cl_get {l : List Cl} {al : List AV} {i : Nat} (h : LIs ClIs l al) (hi : i < al.length) : ∃ c a, l[i]? = some c ∧ c ∈ l ∧ al[i]? = some a ∧ ClIs c a := by
  obtain ⟨x, a, h1, _, h3, h4, h5⟩ := LIs.at h hi
  exact ⟨x, a, h1, h3, h4, h5⟩
structure Sm (c : Cl) : Prop where
  rows : c.m.length ≤ 16
  cols : ∀ r ∈ c.m, r.length ≤ 16
  pos : 0 < c.m.flatten.length
theorem Sm.tot {c : Cl} (h : Sm c) : c.m.flatten.length ≤ 256 := by
  have : ∀ (m : List (List Int)), (∀ r ∈ m, r.length ≤ 16) → m.flatten.length ≤ 16 * m.length := by
    intro m
    induction m with
    | nil => simp
    | cons r m ih =>
      intro h
      have h1 := h r (by simp)
      have h2 := ih fun r hr => h r (by simp [hr])
      simp only [List.flatten_cons, List.length_append, List.length_cons]
      omega
  have := this c.m h.cols
  have := h.rows
  omega
theorem form_sm {c : Cl} (h : formB c = true) : Sm c := by
  obtain ⟨_, _, h1, h2, h3, h4, h5⟩ := form_wm h
  refine ⟨h3, fun r hr => by rw [h1.row r hr]; exact h5, ?_⟩
  rw [flm_len h1]
  exact Nat.mul_pos h2 h4
theorem ints_all2 (l : List Int) : ((ints l).all fun x => x.cells.length == 1 && x.cells.all oneCell) = true := by
  rw [List.all_eq_true]
  intro x hx
  obtain ⟨n, _, rfl⟩ := List.mem_map.1 hx
  rfl
theorem ints_app (l m : List Int) : ints (l ++ m) = ints l ++ ints m := by simp [ints]
theorem flt_take {rows : List (List Int)} {j : Nat} {x : List Int} (h : rows[j]? = some x) : (rows.take (j + 1)).flatten = (rows.take j).flatten ++ x := by
  rw [List.take_add_one, h]; simp
theorem flt_take_le {rows : List (List Int)} (j : Nat) : (rows.take j).flatten.length ≤ rows.flatten.length := by
  conv => rhs; rw [← List.take_append_drop j rows, List.flatten_append, List.length_append]
  exact Nat.le_add_right _ _
theorem app_new {H : List AObj} {T : List Nat} {l xs : List Int} {c : Nat} (hx : 0 < xs.length) (hl : l.length + xs.length ≤ 1073741824) (hc : c < l.length + xs.length) : appA ⟨H, T⟩ 1 none (ints l) (.cap c) (ints xs) = some (.sl (ints (l ++ xs)) (.tl T.length 0), ⟨H, T ++ [0]⟩) := by
  cases xs with
  | nil => simp at hx
  | cons n xs =>
    have k1 := ints_all l
    have k2 := ints_all2 (n :: xs)
    rw [ints_app]
    simp only [ints, List.map_cons] at k1 k2 ⊢
    simp only [List.length_cons] at hl hc
    rw [appA, if_pos ⟨by simp only [List.length_map, List.length_cons]; omega, k1, k2⟩]
    simp only [List.length_map, List.length_cons]
    rw [if_pos hc]
theorem pz_ints {n : Nat} {s : ASt} {l : List Int} {t : Tl} : purify (n + 2) s (.sl (ints l) t) = some (.sl (ints l) (t.stripR (n + 1) s)) := by rw [pz_sl, mapO_at (ints_pure _)]; rfl
theorem strip_pure {n : Nat} {s : ASt} (t : Tl) : (t.stripR n s).pure = true := by
  cases t <;> simp only [Tl.stripR] <;> first | rfl | (split <;> rfl)
theorem drop_cons {α : Type} {l : List α} {i : Nat} {x : α} (h : l[i]? = some x) : l.drop i = x :: l.drop (i + 1) := by
  obtain ⟨h1, h2⟩ := List.getElem?_eq_some_iff.1 h
  rw [← h2]; exact List.drop_eq_getElem_cons h1
end Go.Proofs.Eng
