/- The reference: uses, pops, enter. No conditions beyond those in the theorems. -/
import Derived.Test.YtflfmkkcnphdcaaGreatK3
import Derived.Test.YtflfmkkcnphdcaaGreatG5
import Derived.Test.YtflfmkkcnphdcaaGreatG4
set_option linter.all false
set_option linter.deprecated false
set_option linter.unnecessarySimpa false
set_option linter.unusedVariables false
set_option linter.unusedSimpArgs false
set_option linter.defProp false
namespace Go.Proofs.Eng
open Go Go.Proofs
set_option maxRecDepth 100000
set_option maxHeartbeats 16000000
structure KS (ki si : Nat) (Bs : List AV) (t1 t2 t3 : Tl) (c : Cd) (S : List Int) (H : List AObj) : Prop where
 k : H[ki]? = some (.cells false [.sl Bs t1, .sl (nmA c.gl) t2, .sl (ints c.st) t3, .bs si 0 c.bl.length 1 false])
 s : H[si]? = some (.cells false (ints S))
 sl : S.length = c.bl.length
 ne : ki ≠ si
 bl : LIs blIs c.bl Bs
 p1 : t1.pure = true
 gl : c.gl.length ≤ lenB
theorem KS.app {ki si : Nat} {Bs : List AV} {t1 t2 t3 : Tl} {c : Cd} {S : List Int} {H : List AObj} (h : KS ki si Bs t1 t2 t3 c S H) (G : List AObj) : KS ki si Bs t1 t2 t3 c S (H ++ G) :=
 ⟨app_get_of h.k G, app_get_of h.s G, h.sl, h.ne, h.bl, h.p1, h.gl⟩
section
variable {ki si : Nat} {Bs : List AV} {t1 t2 t3 : Tl} {c : Cd} {S : List Int} {H : List AObj} {V : List Nat}
theorem form_sh (h : KS ki si Bs t1 t2 t3 c S H) (x : Ins) {rest : List Ins} {t : Tl} (br : Int) (ht : t.pure = true) (hl : rest.length ≤ lenB) (hn : x.n.size ≤ lenB) :
  Sh md pfs 139 [.ptr ki 0, x.av, .sl (insA rest) t, .int br] ⟨H, V⟩ (fun v s => v = .int (formE c.bl.length c.gl.length x rest br) ∧ ∃ G, s = ⟨H ++ G, V⟩) fun _ _ => False := by
 obtain ⟨op, a, b, n⟩ := x
 simp only at hn
 have hBl := h.bl.len
 have hk := app_get_of h.k [AObj.cells false [.int op, .int a, .int b, .str n]]
 obtain ⟨_, rfl, cp⟩ := (plain_ret ⟨op, a, b, n⟩ (rest := rest) (t := t) br ht hl).call rfl (by simp [pvs_cons, pvs_nil, pv_sl, pv_v, insPure, ht, Ins.av, pv_agg])
 obtain ⟨_, rfl, cn⟩ := (name_ret n hn).call rfl (by simp [pvs_cons, pvs_nil, pv_v])
 simp only [Ins.av] at cp
 have go : ∀ r, formE c.bl.length c.gl.length ⟨op, a, b, n⟩ rest br = r → (Sh md pfs 139 [.ptr ki 0, .agg [.int op, .int a, .int b, .str n], .sl (insA rest) t, .int br] ⟨H, V⟩ (fun v s => v = .int r ∧ ∃ G, s = ⟨H ++ G, V⟩) fun _ _ => False) → Sh md pfs 139 [.ptr ki 0, Ins.av ⟨op, a, b, n⟩, .sl (insA rest) t, .int br] ⟨H, V⟩ (fun v s => v = .int (formE c.bl.length c.gl.length ⟨op, a, b, n⟩ rest br) ∧ ∃ G, s = ⟨H ++ G, V⟩) fun _ _ => False := by
  rintro r rfl h; exact h
 cases hi : iplB ⟨op, a, b, n⟩ rest br
 ·refine go 3 (by rw [formE, if_pos hi]) ?_
  rw [hi] at cp
  refine sh_of pf139_is (Nat.le_of_ble_eq_true rfl) ?_
  simp only [pf139, ↓wpre, wall, simprocAttr, List.length_append, List.append_assoc, app_get_len, app_get_add, app_set_len, app_set_add, cp]
  exact ⟨_, rfl⟩
 rw [hi] at cp
 have hf : formE c.bl.length c.gl.length ⟨op, a, b, n⟩ rest br = if op = 4 ∧ isName n = false then 29 else if missB c.bl.length c.gl.length ⟨op, a, b, n⟩ = true then 2 else 0 := by rw [formE, if_neg (by rw [hi]; simp)]
 have hop : op = 4 ∨ op = 1 ∨ op = 6 ∨ op = 7 ∨ ((op == 4) = false ∧ (op == 1) = false ∧ (op == 6) = false ∧ (op == 7) = false) := by
  simp only [beq_eq_false_iff_ne]; omega
 rcases hop with rfl | rfl | rfl | rfl | ⟨o4, o1, o6, o7⟩
 ·cases hnm : isName n
  ·refine go 29 (by rw [hf, if_pos ⟨rfl, hnm⟩]) ?_
   rw [hnm] at cn
   refine sh_of pf139_is (Nat.le_of_ble_eq_true rfl) ?_
   simp only [pf139, ↓wpre, wall, simprocAttr, List.length_append, List.append_assoc, app_get_len, app_get_add, app_set_len, app_set_add, cp, cn]
   exact ⟨_, rfl⟩
  ·rw [hnm] at cn
   cases h32 : decide (a ≥ 32)
   ·refine go 0 (by rw [hf, if_neg (by simp [hnm]), if_neg (by simp [missB]; simpa using h32)]) ?_
    refine sh_of pf139_is (Nat.le_of_ble_eq_true rfl) ?_
    simp only [pf139, ↓wpre, wall, simprocAttr, List.length_append, List.append_assoc, app_get_len, app_get_add, app_set_len, app_set_add, cp, cn, h32]
    exact ⟨_, rfl⟩
   ·refine go 2 (by rw [hf, if_neg (by simp [hnm]), if_pos (by simp [missB]; simpa using h32)]) ?_
    refine sh_of pf139_is (Nat.le_of_ble_eq_true rfl) ?_
    simp only [pf139, ↓wpre, wall, simprocAttr, List.length_append, List.append_assoc, app_get_len, app_get_add, app_set_len, app_set_add, cp, cn, h32]
    exact ⟨_, rfl⟩
 ·cases h1 : decide (a ≥ ((Bs.length : Nat) : Int))
  ·refine go 0 (by rw [hf, if_neg (by simp), if_neg (by simp [missB]; simp at h1; omega)]) ?_
   refine sh_of pf139_is (Nat.le_of_ble_eq_true rfl) ?_
   simp only [pf139, ↓wpre, wall, simprocAttr, List.length_append, List.append_assoc, app_get_len, app_get_add, app_set_len, app_set_add, cp, hk, h1]
   exact ⟨_, rfl⟩
  ·refine go 2 (by rw [hf, if_neg (by simp), if_pos (by simp [missB]; simp at h1; omega)]) ?_
   refine sh_of pf139_is (Nat.le_of_ble_eq_true rfl) ?_
   simp only [pf139, ↓wpre, wall, simprocAttr, List.length_append, List.append_assoc, app_get_len, app_get_add, app_set_len, app_set_add, cp, hk, h1]
   exact ⟨_, rfl⟩
 ·cases h1 : decide (a ≥ ((Bs.length : Nat) : Int))
  ·cases h64 : decide (b > 64)
   ·refine go 0 (by rw [hf, if_neg (by simp), if_neg (by simp [missB]; simp at h1 h64; omega)]) ?_
    refine sh_of pf139_is (Nat.le_of_ble_eq_true rfl) ?_
    simp only [pf139, ↓wpre, wall, simprocAttr, List.length_append, List.append_assoc, app_get_len, app_get_add, app_set_len, app_set_add, cp, hk, h1, h64]
    exact ⟨_, rfl⟩
   ·refine go 2 (by rw [hf, if_neg (by simp), if_pos (by simp [missB]; simp at h1 h64; omega)]) ?_
    refine sh_of pf139_is (Nat.le_of_ble_eq_true rfl) ?_
    simp only [pf139, ↓wpre, wall, simprocAttr, List.length_append, List.append_assoc, app_get_len, app_get_add, app_set_len, app_set_add, cp, hk, h1, h64]
    exact ⟨_, rfl⟩
  ·refine go 2 (by rw [hf, if_neg (by simp), if_pos (by simp [missB]; simp at h1; omega)]) ?_
   refine sh_of pf139_is (Nat.le_of_ble_eq_true rfl) ?_
   simp only [pf139, ↓wpre, wall, simprocAttr, List.length_append, List.append_assoc, app_get_len, app_get_add, app_set_len, app_set_add, cp, hk, h1]
   exact ⟨_, rfl⟩
 ·cases h1 : decide (a ≥ ((c.gl.length : Nat) : Int))
  ·refine go 0 (by rw [hf, if_neg (by simp), if_neg (by simp [missB]; simp at h1; omega)]) ?_
   refine sh_of pf139_is (Nat.le_of_ble_eq_true rfl) ?_
   simp only [pf139, ↓wpre, wall, simprocAttr, List.length_append, List.append_assoc, app_get_len, app_get_add, app_set_len, app_set_add, cp, hk, nmA_len, h1]
   exact ⟨_, rfl⟩
  ·refine go 2 (by rw [hf, if_neg (by simp), if_pos (by simp [missB]; simp at h1; omega)]) ?_
   refine sh_of pf139_is (Nat.le_of_ble_eq_true rfl) ?_
   simp only [pf139, ↓wpre, wall, simprocAttr, List.length_append, List.append_assoc, app_get_len, app_get_add, app_set_len, app_set_add, cp, hk, nmA_len, h1]
   exact ⟨_, rfl⟩
 ·have n4 : op ≠ 4 := ne_of_beq_false o4
  refine go 0 (by rw [hf, if_neg (by simp [n4]), if_neg (by simp [missB, o4, o1, o6, o7])]) ?_
  refine sh_of pf139_is (Nat.le_of_ble_eq_true rfl) ?_
  simp only [pf139, ↓wpre, wall, simprocAttr, List.length_append, List.append_assoc, app_get_len, app_get_add, app_set_len, app_set_add, cp, o4, o1, o6, o7]
  exact ⟨_, rfl⟩
end
end Go.Proofs.Eng
namespace Go.Proofs.Eng
open Go Go.Proofs
set_option maxRecDepth 100000
set_option maxHeartbeats 16000000
theorem ints_atD {S : List Int} {b : Nat} (h : b < S.length) : (ints S)[b]? = some (.int (S.getD b 0)) := by
 have := List.getElem?_eq_getElem h
 rw [ints, List.getElem?_map, List.getD, this]; rfl
theorem set_ints {S : List Int} {b : Nat} {v : Int} (h : b < S.length) : (ints S).take b ++ .v (.int .i64 v) :: (ints S).drop (b + 1) = ints (S.set b v) := by
 simp only [ints, List.map_set]
 rw [List.set_eq_take_append_cons_drop, if_pos (by simpa using h)]
section
variable {ki si q : Nat} {Bs : List AV} {t1 t2 t3 : Tl} {c : Cd} {S : List Int} {H : List AObj} {V : List Nat}
theorem enter_sh (h : KS ki si Bs t1 t2 t3 c S H) {n : Nat} {env st bi br : Int} (hq : H[q]? = some (.cells false [.int n, .int env, .int st, .int bi, .int br])) {b : Int} {m : Int} (h0 : 0 ≤ b) (h1 : b < c.bl.length) (hw : in64 (env + m)) :
  Sh md pfs 168 [.ptr ki 0, .ptr q 0, .int b, .int m] ⟨H, V⟩ (fun v s => match entE n S b (env + m) with | .error e => v = .int e ∧ s = ⟨H, V⟩ | .ok S' => v = .int 0 ∧ s = ⟨H.set si (.cells false (ints S')), V⟩) fun _ _ => False := by
 obtain ⟨b, rfl⟩ : ∃ k : Nat, b = k := ⟨b.toNat, by omega⟩
 have hk := h.k
 have hs := h.s
 have hlt : b < S.length := by rw [h.sl]; omega
 have hb : (List.drop b (ints S)).head? = some (.int (S.getD b 0)) := by rw [List.head?_drop]; exact ints_atD hlt
 have hbs : (b : Int) < ((ints S).length : Nat) := by rw [ints_len]; omega
 have hset := set_ints (v := env + m) hlt
 have hlb : (b : Int) < c.bl.length := h1
 rw [entE]
 simp only [Int.toNat_natCast]
 cases d1 : decide (S.getD b 0 ≥ 0)
 ·rw [if_neg (by simpa using d1)]
  cases d2 : decide ((b : Int) ≤ (n : Nat))
  ·rw [if_neg (by simpa using d2)]
   refine sh_of pf168_is (Nat.le_of_ble_eq_true rfl) ?_
   simp only [pf168, ↓wpre, wall, simprocAttr, List.length_append, List.append_assoc, app_get_len, app_get_add, app_set_len, app_set_add, hk, hs, hq, Nat.mul_one, hb, hbs, hlb, d1, d2, hset, wrap_in hw]
   rw [ints_len]; omega
  ·rw [if_pos (by simpa using d2)]
   refine sh_of pf168_is (Nat.le_of_ble_eq_true rfl) ?_
   simp only [pf168, ↓wpre, wall, simprocAttr, List.length_append, List.append_assoc, app_get_len, app_get_add, app_set_len, app_set_add, hk, hs, hq, Nat.mul_one, hb, hbs, hlb, d1, d2]
 ·rw [if_pos (by simpa using d1)]
  refine sh_of pf168_is (Nat.le_of_ble_eq_true rfl) ?_
  simp only [pf168, ↓wpre, wall, simprocAttr, List.length_append, List.append_assoc, app_get_len, app_get_add, app_set_len, app_set_add, hk, hs, hq, Nat.mul_one, hb, hbs, hlb, d1]
theorem KS.enter (h : KS ki si Bs t1 t2 t3 c S H) {S' : List Int} (hl : S'.length = S.length) : KS ki si Bs t1 t2 t3 c S' (H.set si (.cells false (ints S'))) :=
 ⟨set_ne h.k h.ne.symm, by rw [List.getElem?_set, if_pos rfl, if_pos (lt_of_get h.s)], hl.trans h.sl, h.ne, h.bl, h.p1, h.gl⟩
theorem refers_sh (h : KS ki si Bs t1 t2 t3 c S H) {n : Nat} {env st bi br : Int} (hq : H[q]? = some (.cells false [.int n, .int env, .int st, .int bi, .int br])) (x : Ins) (h0 : x.op = 1 ∨ x.op = 6 → 0 ≤ x.a ∧ x.a < c.bl.length) (hw1 : in64 (env + 1)) (hw : x.op = 6 → in64 (env + x.b)) :
  Sh md pfs 140 [.ptr ki 0, .ptr q 0, x.av] ⟨H, V⟩ (fun v s => match refE n x ⟨S, env, st, bi, br⟩ with | .error e => v = .int e ∧ ∃ G, s = ⟨H ++ G, V⟩ | .ok S' => v = .int 0 ∧ S'.length = S.length ∧ ∃ G, s = ⟨(H ++ G).set si (.cells false (ints S')), V⟩) fun _ _ => False := by
 obtain ⟨op, a, b, nm⟩ := x
 simp only at h0 hw
 have hA := h.app [.cells false [.int op, .int a, .int b, .str nm]]
 have hqA := app_get_of hq [AObj.cells false [.int op, .int a, .int b, .str nm]]
 have hop : op = 1 ∨ op = 6 ∨ op = 0 ∨ ((op == 1) = false ∧ (op == 6) = false ∧ (op == 0) = false) := by
  simp only [beq_eq_false_iff_ne]; omega
 have hsS : (H ++ [AObj.cells false [.int op, .int a, .int b, .str nm]]).set si (.cells false (ints S)) = H ++ [AObj.cells false [.int op, .int a, .int b, .str nm]] := by
  apply List.ext_getElem?
  intro k
  by_cases hk : si = k
  ·subst hk; rw [List.getElem?_set, if_pos rfl, if_pos (lt_of_get hA.s)]; exact hA.s.symm
  ·rw [List.getElem?_set, if_neg hk]
 have hent : ∀ {b' m S'}, entE n S b' m = .ok S' → S'.length = S.length := fun {b' m S'} e => by
  unfold entE at e
  split at e
  ·cases e
  ·split at e
   ·cases e
   ·cases e; simp
 rw [refE]
 rcases hop with rfl | rfl | rfl | ⟨o1, o6, o0⟩
 ·rw [if_pos rfl]
  obtain ⟨v, s, hp, hc⟩ := (enter_sh (V := V) hA hqA (h0 (.inl rfl)).1 (h0 (.inl rfl)).2 hw1).callRet rfl
  simp only
  refine sh_of pf140_is (Nat.le_of_ble_eq_true rfl) ?_
  cases he : entE n S a (env + 1) with
  | error e =>
   rw [he] at hp
   obtain ⟨rfl, rfl⟩ := hp
   simp only [pf140, Ins.av, ↓wpre, wall, simprocAttr, List.length_append, List.append_assoc, app_get_len, app_get_add, app_set_len, app_set_add, hc]
   exact ⟨_, rfl⟩
  | ok S' =>
   rw [he] at hp
   obtain ⟨rfl, rfl⟩ := hp
   simp only [pf140, Ins.av, ↓wpre, wall, simprocAttr, List.length_append, List.append_assoc, app_get_len, app_get_add, app_set_len, app_set_add, hc]
   exact ⟨hent he, _, rfl⟩
 ·rw [if_neg (by simp), if_pos rfl]
  obtain ⟨v, s, hp, hc⟩ := (enter_sh (V := V) hA hqA (h0 (.inr rfl)).1 (h0 (.inr rfl)).2 (hw rfl)).callRet rfl
  simp only
  refine sh_of pf140_is (Nat.le_of_ble_eq_true rfl) ?_
  cases he : entE n S a (env + b) with
  | error e =>
   rw [he] at hp
   obtain ⟨rfl, rfl⟩ := hp
   simp only [pf140, Ins.av, ↓wpre, wall, simprocAttr, List.length_append, List.append_assoc, app_get_len, app_get_add, app_set_len, app_set_add, hc]
   exact ⟨_, rfl⟩
  | ok S' =>
   rw [he] at hp
   obtain ⟨rfl, rfl⟩ := hp
   simp only [pf140, Ins.av, ↓wpre, wall, simprocAttr, List.length_append, List.append_assoc, app_get_len, app_get_add, app_set_len, app_set_add, hc]
   exact ⟨hent he, _, rfl⟩
 ·rw [if_neg (by simp), if_neg (by simp)]
  cases d : decide (a ≥ env)
  ·rw [if_neg (by simpa using d)]
   refine sh_of pf140_is (Nat.le_of_ble_eq_true rfl) ?_
   simp only [pf140, Ins.av, ↓wpre, wall, simprocAttr, List.length_append, List.append_assoc, app_get_len, app_get_add, app_set_len, app_set_add, hqA, d]
   exact ⟨_, by rw [hsS]⟩
  ·rw [if_pos (by simpa using d)]
   refine sh_of pf140_is (Nat.le_of_ble_eq_true rfl) ?_
   simp only [pf140, Ins.av, ↓wpre, wall, simprocAttr, List.length_append, List.append_assoc, app_get_len, app_get_add, app_set_len, app_set_add, hqA, d]
   exact ⟨_, rfl⟩
 ·rw [if_neg (by simpa using o1), if_neg (by simpa using o6), if_neg (by rintro ⟨h, _⟩; exact ne_of_beq_false o0 h)]
  refine sh_of pf140_is (Nat.le_of_ble_eq_true rfl) ?_
  simp only [pf140, Ins.av, ↓wpre, wall, simprocAttr, List.length_append, List.append_assoc, app_get_len, app_get_add, app_set_len, app_set_add, o1, o6, o0]
  exact ⟨_, by rw [hsS]⟩
theorem execute_sh {n : Nat} {env st bi br : Int} (hq : H[q]? = some (.cells false [.int n, .int env, .int st, .int bi, .int br])) (x : Ins) (rest : List Ins) (h0 : 0 ≤ x.op) (h1 : x.op ≤ 14) (hb : 0 ≤ x.b) (hst : 0 ≤ st ∧ st ≤ B62) (hbi : 0 ≤ bi ∧ bi ≤ B62) (hen : -B62 ≤ env ∧ env ≤ B62) (hbr : 0 ≤ br ∧ br ≤ B62) :
  Sh md pfs 141 [.ptr q 0, x.av, .bool rest.isEmpty] ⟨H, V⟩ (fun v s => match exeE x rest S ⟨S, env, st, bi, br⟩ with | .error e => v = .int e ∧ ∃ H', s = ⟨H', V⟩ | .ok t => v = .int 0 ∧ t.S = S ∧ ∃ G, s = ⟨(H ++ G).set q (.cells false [.int n, .int t.env, .int t.stack, .int t.binds, .int t.br]), V⟩) fun _ _ => False := by
 obtain ⟨op, a, b, nm⟩ := x
 simp only at h0 h1 hb
 have hB : B62 = 4611686018427387904 := rfl
 have hqA := app_get_of hq [AObj.cells false [.int op, .int a, .int b, .str nm]]
 obtain ⟨_, rfl, ce⟩ := (effect_ret ⟨op, a, b, nm⟩ h0 h1).call rfl (by simp [pvs_cons, pvs_nil, pv_v, Ins.av, pv_agg])
 simp only [Ins.av] at ce
 have hpp : 0 ≤ popI ⟨op, a, b, nm⟩ ∧ 0 ≤ pushI ⟨op, a, b, nm⟩ ∧ pushI ⟨op, a, b, nm⟩ ≤ 1 := by
  refine ⟨?_, ?_, ?_⟩
  ·unfold popI; simp only; split
   ·omega
   ·split
    ·exact hb
    ·split <;> omega
  ·unfold pushI; split <;> omega
  ·unfold pushI; split <;> omega
 obtain ⟨po, hpo⟩ : ∃ po, po = popI ⟨op, a, b, nm⟩ := ⟨_, rfl⟩
 obtain ⟨pu, hpu⟩ : ∃ pu, pu = pushI ⟨op, a, b, nm⟩ := ⟨_, rfl⟩
 rw [← hpo, ← hpu] at ce hpp
 have hex : exeE ⟨op, a, b, nm⟩ rest S ⟨S, env, st, bi, br⟩ = if st < po ∨ op = 10 ∧ bi = 0 then .error 27 else if (op == 3) != rest.isEmpty then .error 3 else if op = 3 ∧ (st - po + pu ≠ 1 ∨ envI ⟨op, a, b, nm⟩ bi ≠ 0) then .error 27 else .ok ⟨S, envI ⟨op, a, b, nm⟩ env, st - po + pu, envI ⟨op, a, b, nm⟩ bi, brI ⟨op, a, b, nm⟩ br⟩ := by rw [hpo, hpu]; rfl
 rw [hex]
 clear hex
 have hqs : ∀ Y, ((H ++ [AObj.cells false [.int op, .int a, .int b, .str nm]]).set q Y)[q]? = some Y := fun Y => by rw [List.getElem?_set, if_pos rfl, if_pos (lt_of_get hqA)]
 have hlq := lt_of_get hq
 have hxs : ∀ Y, ((H ++ [AObj.cells false [.int op, .int a, .int b, .str nm]]).set q Y)[H.length]? = some (AObj.cells false [.int op, .int a, .int b, .str nm]) := fun Y => by rw [List.getElem?_set, if_neg (by omega)]; simp
 have SS : ∀ (Y Z : AObj), ((H ++ [AObj.cells false [.int op, .int a, .int b, .str nm]]).set q Y).set q Z = (H ++ [AObj.cells false [.int op, .int a, .int b, .str nm]]).set q Z := fun Y Z => List.set_set ..
 have hm : (if br - 1 > 0 then br - 1 else 0) = max 0 (br - 1) := by split <;> omega
 have w1 : IntKind.i64.wrap (br - 1) = br - 1 := wrap_in (by unfold in64; omega)
 obtain ⟨l, hl⟩ : ∃ l, l = rest.isEmpty := ⟨_, rfl⟩
 rw [← hl]
 refine sh_of pf141_is (Nat.le_of_ble_eq_true rfl) ?_
 cases d1 : decide (st < po)
 case true =>
  rw [if_pos (.inl (by simpa using d1))]
  cases h5 : (op == 5)
  all_goals
   simp only [pf141, Ins.av, ↓wpre, wall, simprocAttr, List.length_append, List.append_assoc, app_get_len, app_get_add, app_set_len, app_set_add, hqA, hqs, hxs, hm, w1, ce, d1, h5, SS, show ((false : Bool) == true) = false from rfl, show ((true : Bool) == false) = false from rfl, Bool.not_true, Bool.not_false]
   exact ⟨_, rfl⟩
 have d1' : ¬ st < po := by simpa using d1
 have w2 : IntKind.i64.wrap (pu - po) = pu - po := wrap_in (by unfold in64; omega)
 have w3 : IntKind.i64.wrap (st + (pu - po)) = st - po + pu := by rw [wrap_in (by unfold in64; omega)]; omega
 have hop : op = 5 ∨ op = 9 ∨ op = 10 ∨ op = 3 ∨ ((op == 5) = false ∧ (op == 9) = false ∧ (op == 10) = false ∧ (op == 3) = false) := by
  simp only [beq_eq_false_iff_ne]; omega
 generalize hz : st - po + pu = z at w3
 rcases hop with rfl | rfl | rfl | rfl | ⟨o5, o9, o10, o3⟩
 ·rw [if_neg (by omega)]
  cases l
  ·rw [if_neg (by decide), if_neg (by omega)]
   simp only [pf141, Ins.av, ↓wpre, wall, simprocAttr, List.length_append, List.append_assoc, app_get_len, app_get_add, app_set_len, app_set_add, hqA, hqs, hxs, hm, w1, w2, w3, ce, d1, SS, show ((false : Bool) == true) = false from rfl, show ((true : Bool) == false) = false from rfl, Bool.not_true, Bool.not_false]
   first | exact ⟨_, rfl⟩ | exact ⟨trivial, _, rfl⟩
  ·rw [if_pos (by decide)]
   simp only [pf141, Ins.av, ↓wpre, wall, simprocAttr, List.length_append, List.append_assoc, app_get_len, app_get_add, app_set_len, app_set_add, hqA, hqs, hxs, hm, w1, w2, w3, ce, d1, SS, show ((false : Bool) == true) = false from rfl, show ((true : Bool) == false) = false from rfl, Bool.not_true, Bool.not_false]
   exact ⟨_, rfl⟩
 ·have w4 : IntKind.i64.wrap (env + 1) = env + 1 := wrap_in (by unfold in64; omega)
  have w5 : IntKind.i64.wrap (bi + 1) = bi + 1 := wrap_in (by unfold in64; omega)
  rw [if_neg (by omega)]
  cases l
  ·rw [if_neg (by decide), if_neg (by omega)]
   simp only [pf141, Ins.av, ↓wpre, wall, simprocAttr, List.length_append, List.append_assoc, app_get_len, app_get_add, app_set_len, app_set_add, hqA, hqs, hxs, hm, w1, w2, w3, w4, w5, ce, d1, SS, show ((false : Bool) == true) = false from rfl, show ((true : Bool) == false) = false from rfl, Bool.not_true, Bool.not_false]
   first | exact ⟨_, rfl⟩ | exact ⟨trivial, _, rfl⟩
  ·rw [if_pos (by decide)]
   simp only [pf141, Ins.av, ↓wpre, wall, simprocAttr, List.length_append, List.append_assoc, app_get_len, app_get_add, app_set_len, app_set_add, hqA, hqs, hxs, hm, w1, w2, w3, w4, w5, ce, d1, SS, show ((false : Bool) == true) = false from rfl, show ((true : Bool) == false) = false from rfl, Bool.not_true, Bool.not_false]
   exact ⟨_, rfl⟩
 ·have w4 : IntKind.i64.wrap (env - 1) = env - 1 := wrap_in (by unfold in64; omega)
  have w5 : IntKind.i64.wrap (bi - 1) = bi - 1 := wrap_in (by unfold in64; omega)
  cases d2 : (bi == 0)
  ·have d2' := ne_of_beq_false d2
   rw [if_neg (by omega)]
   cases l
   ·rw [if_neg (by decide), if_neg (by omega)]
    simp only [pf141, Ins.av, ↓wpre, wall, simprocAttr, List.length_append, List.append_assoc, app_get_len, app_get_add, app_set_len, app_set_add, hqA, hqs, hxs, hm, w1, w2, w3, w4, w5, ce, d1, d2, SS, show ((false : Bool) == true) = false from rfl, show ((true : Bool) == false) = false from rfl, Bool.not_true, Bool.not_false]
    first | exact ⟨_, rfl⟩ | exact ⟨trivial, _, rfl⟩
   ·rw [if_pos (by decide)]
    simp only [pf141, Ins.av, ↓wpre, wall, simprocAttr, List.length_append, List.append_assoc, app_get_len, app_get_add, app_set_len, app_set_add, hqA, hqs, hxs, hm, w1, w2, w3, w4, w5, ce, d1, d2, SS, show ((false : Bool) == true) = false from rfl, show ((true : Bool) == false) = false from rfl, Bool.not_true, Bool.not_false]
    exact ⟨_, rfl⟩
  ·have d2' := eq_of_beq d2
   rw [if_pos (.inr ⟨rfl, d2'⟩)]
   simp only [pf141, Ins.av, ↓wpre, wall, simprocAttr, List.length_append, List.append_assoc, app_get_len, app_get_add, app_set_len, app_set_add, hqA, hqs, hxs, hm, w1, w2, w3, ce, d1, d2, SS, show ((false : Bool) == true) = false from rfl, show ((true : Bool) == false) = false from rfl, Bool.not_true, Bool.not_false]
   exact ⟨_, rfl⟩
 ·rw [if_neg (by omega)]
  cases l
  ·rw [if_pos (by decide)]
   simp only [pf141, Ins.av, ↓wpre, wall, simprocAttr, List.length_append, List.append_assoc, app_get_len, app_get_add, app_set_len, app_set_add, hqA, hqs, hxs, hm, w1, w2, w3, ce, d1, SS, show ((false : Bool) == true) = false from rfl, show ((true : Bool) == false) = false from rfl, Bool.not_true, Bool.not_false]
   exact ⟨_, rfl⟩
  ·rw [if_neg (by decide)]
   cases d3 : (z != 1)
   ·cases d4 : (bi != 0)
    ·have e3 : z = 1 := by simpa [bne] using d3
     have e4 : bi = 0 := by simpa [bne] using d4
     rw [if_neg (fun h => h.2.elim (fun h => h e3) fun h => h e4)]
     simp only [pf141, Ins.av, ↓wpre, wall, simprocAttr, List.length_append, List.append_assoc, app_get_len, app_get_add, app_set_len, app_set_add, hqA, hqs, hxs, hm, w1, w2, w3, ce, d1, d3, d4, SS, show ((false : Bool) == true) = false from rfl, show ((true : Bool) == false) = false from rfl, Bool.not_true, Bool.not_false]
     first | exact ⟨_, rfl⟩ | exact ⟨trivial, _, rfl⟩
    ·have e4 : bi ≠ 0 := by simpa [bne] using d4
     rw [if_pos ⟨rfl, .inr e4⟩]
     simp only [pf141, Ins.av, ↓wpre, wall, simprocAttr, List.length_append, List.append_assoc, app_get_len, app_get_add, app_set_len, app_set_add, hqA, hqs, hxs, hm, w1, w2, w3, ce, d1, d3, d4, SS, show ((false : Bool) == true) = false from rfl, show ((true : Bool) == false) = false from rfl, Bool.not_true, Bool.not_false]
     exact ⟨_, rfl⟩
   ·have e3 : z ≠ 1 := by simpa [bne] using d3
    rw [if_pos ⟨rfl, .inl e3⟩]
    simp only [pf141, Ins.av, ↓wpre, wall, simprocAttr, List.length_append, List.append_assoc, app_get_len, app_get_add, app_set_len, app_set_add, hqA, hqs, hxs, hm, w1, w2, w3, ce, d1, d3, SS, show ((false : Bool) == true) = false from rfl, show ((true : Bool) == false) = false from rfl, Bool.not_true, Bool.not_false]
    exact ⟨_, rfl⟩
 ·have e10 := ne_of_beq_false o10
  have e3 := ne_of_beq_false o3
  have e9 := ne_of_beq_false o9
  have e5 := ne_of_beq_false o5
  have E1 : ∀ v, envI ⟨op, a, b, nm⟩ v = v := fun v => by simp only [envI, if_neg e9, if_neg e10]
  have E2 : brI ⟨op, a, b, nm⟩ br = max 0 (br - 1) := by simp only [brI, if_neg e5]
  rw [if_neg (fun h => h.elim d1' fun h => e10 h.1), o3, E1, E1, E2]
  cases l
  ·rw [if_neg (by decide), if_neg (by rintro ⟨h, _⟩; exact e3 h)]
   simp only [pf141, Ins.av, ↓wpre, wall, simprocAttr, List.length_append, List.append_assoc, app_get_len, app_get_add, app_set_len, app_set_add, hqA, hqs, hxs, hm, w1, w2, w3, ce, d1, o5, o9, o10, o3, SS, show ((false : Bool) == true) = false from rfl, show ((true : Bool) == false) = false from rfl, Bool.not_true, Bool.not_false]
   first | exact ⟨_, rfl⟩ | exact ⟨trivial, _, rfl⟩
  ·rw [if_pos (by decide)]
   simp only [pf141, Ins.av, ↓wpre, wall, simprocAttr, List.length_append, List.append_assoc, app_get_len, app_get_add, app_set_len, app_set_add, hqA, hqs, hxs, hm, w1, w2, w3, ce, d1, o5, o9, o10, o3, SS, show ((false : Bool) == true) = false from rfl, show ((true : Bool) == false) = false from rfl, Bool.not_true, Bool.not_false]
   exact ⟨_, rfl⟩
end
end Go.Proofs.Eng
namespace Go.Proofs.Eng
open Go Go.Proofs
set_option maxRecDepth 100000
set_option maxHeartbeats 16000000
theorem form_ok {nb ng : Nat} {x : Ins} {rest : List Ins} {br : Int} (h : formE nb ng x rest br = 0) : (0 ≤ x.op ∧ x.op ≤ 14 ∧ 0 ≤ x.a ∧ 0 ≤ x.b) ∧ (x.op = 1 ∨ x.op = 6 → x.a < nb) ∧ (x.op = 6 → x.b ≤ 64) ∧ (x.op = 5 → x.a ≤ 32) := by
 unfold formE at h
 split at h
 ·omega
 rename_i h1
 split at h
 ·omega
 split at h
 ·omega
 rename_i h3
 have h1 : iplB x rest br = true := by simpa using h1
 simp only [iplB, Bool.and_eq_true, decide_eq_true_eq] at h1
 obtain ⟨⟨⟨⟨⟨⟨⟨⟨a1, a2⟩, a3⟩, a4⟩, _⟩, _⟩, _⟩, _⟩, a5⟩ := h1
 simp only [missB, Bool.or_eq_true, Bool.and_eq_true, beq_iff_eq, decide_eq_true_eq, not_or, not_and, Int.not_le, Int.not_lt] at h3
 obtain ⟨⟨⟨_, h6⟩, h16⟩, _⟩ := h3
 refine ⟨⟨a1, a2, a3, a4⟩, fun h => h16 h, fun h => h6 h, fun h => ?_⟩
 have h5 : (x.op != 5) = false := by simp [h]
 rw [h5, Bool.false_or, caseOK] at a5
 simp only [Bool.and_eq_true, decide_eq_true_eq] at a5
 exact a5.1.1
theorem stp_ne {nb ng n : Nat} {x : Ins} {rest : List Ins} {t : Sk} {e : Int} (h : stp nb ng n x rest t = .error e) : e ≠ 0 := by
 unfold stp at h
 split at h
 ·rename_i h1
  simp only [Except.error.injEq] at h; rw [← h]; exact h1
 ·split at h
  ·rename_i h2
   simp only [Except.error.injEq] at h; subst h
   unfold refE entE at h2
   repeat' split at h2
   all_goals first | (simp only [Except.error.injEq] at h2; subst h2; decide) | cases h2
  ·unfold exeE at h
   repeat' split at h
   all_goals first | (simp only [Except.error.injEq] at h; subst h; decide) | cases h
theorem irun_ne {nb ng n : Nat} {suf : List Ins} : ∀ {l : List Ins} {t : Sk} {e : Int}, irun nb ng n suf l t = .error e → e ≠ 0
 | [], t, e, h => by cases h
 | x :: l, t, e, h => by
  rw [irun] at h
  split at h
  ·rename_i e' h1
   simp only [Except.error.injEq] at h; subst h
   exact stp_ne h1
  ·exact irun_ne h
def SB (W : Int) (S : List Int) : Prop := ∀ s ∈ S, s ≤ W
theorem SB.mono {W W' : Int} {S : List Int} (h : SB W S) (hw : W ≤ W') : SB W' S := fun s hs => Int.le_trans (h s hs) hw
theorem SB.set {W : Int} {S : List Int} (h : SB W S) {k : Nat} {v : Int} (hv : v ≤ W) : SB W (S.set k v) := fun s hs => by
 rcases List.mem_or_eq_of_mem_set hs with h' | rfl
 ·exact h s h'
 ·exact hv
structure Bd (W : Int) (e0 : Int) (j : Nat) (t : Sk) : Prop where
 st : 0 ≤ t.stack ∧ t.stack ≤ j
 bi : 0 ≤ t.binds ∧ t.binds ≤ j
 en : t.env = e0 + t.binds
 br : 0 ≤ t.br ∧ t.br ≤ 32
 sb : SB (W + 64 + j) t.S
theorem Bd.step {W e0 : Int} {j nb ng n : Nat} {x : Ins} {rest : List Ins} {t t' : Sk} (h : Bd W e0 j t) (h0 : 0 ≤ e0) (h1 : e0 ≤ W) (hs : stp nb ng n x rest t = .ok t') : Bd W e0 (j + 1) t' := by
 unfold stp at hs
 split at hs
 ·cases hs
 rename_i hf
 obtain ⟨⟨f1, f2, f3, f4⟩, f5, f6, f7⟩ := form_ok (by simpa using hf)
 split at hs
 ·cases hs
 rename_i S' hr
 obtain ⟨⟨s1, s2⟩, ⟨b1, b2⟩, he, ⟨r1, r2⟩, hsb⟩ := h
 have hS' : SB (W + 64 + (j + 1 : Nat)) S' := by
  unfold refE at hr
  have hsb' := hsb.mono (W' := W + 64 + (j + 1 : Nat)) (by omega)
  have hent : ∀ {b m}, entE n t.S b m = .ok S' → m ≤ W + 64 + (j + 1 : Nat) → SB (W + 64 + (j + 1 : Nat)) S' := fun {b m} e hm => by
   unfold entE at e
   split at e
   ·cases e
   ·split at e
    ·cases e
    ·cases e; exact hsb'.set hm
  split at hr
  ·exact hent hr (by omega)
  ·split at hr
   ·rename_i h6
    have := f6 h6
    exact hent hr (by omega)
   ·split at hr
    ·cases hr
    ·cases hr; exact hsb'
 unfold exeE at hs
 split at hs
 ·cases hs
 rename_i g1
 split at hs
 ·cases hs
 split at hs
 ·cases hs
 simp only [Except.ok.injEq] at hs
 subst hs
 have g2 : ¬ t.stack < popI x := fun h => g1 (.inl h)
 have g3 : ¬ (x.op = 10 ∧ t.binds = 0) := fun h => g1 (.inr h)
 have hp : 0 ≤ popI x := by unfold popI; repeat' split <;> omega
 have hq : 0 ≤ pushI x ∧ pushI x ≤ 1 := by unfold pushI; split <;> omega
 refine ⟨⟨by simp only; omega, by simp only; omega⟩, ?_, ?_, ?_, hS'⟩
 ·simp only [envI]
  split
  ·omega
  ·split
   ·rename_i h10
    have : t.binds ≠ 0 := fun h => g3 ⟨h10, h⟩
    omega
   ·omega
 ·simp only [envI]
  split
  ·omega
  ·split <;> omega
 ·simp only [brI]
  split
  ·rename_i h5; exact ⟨f3, f7 h5⟩
  ·omega
def blkE (nb ng n : Nat) (l : List Ins) (S : List Int) : Except Int (List Int) := if S.getD n 0 < 0 then .error 9 else if l = [] then .error 3 else match irun nb ng n [] l ⟨S, S.getD n 0, 0, 0, 0⟩ with
 | .error e => .error e
 | .ok t => .ok t.S
theorem goB_blk (nb ng n : Nat) (l : List Ins) (r : List (List Ins)) (S : List Int) : goB nb ng n (l :: r) S = match blkE nb ng n l S with
  | .error e => e
  | .ok S' => goB nb ng (n + 1) r S' := by
 rw [goB, blkE]
 split
 ·rfl
 ·split
  ·rfl
  ·cases irun nb ng n [] l ⟨S, S.getD n 0, 0, 0, 0⟩ <;> rfl
theorem blkE_ne {nb ng n : Nat} {l : List Ins} {S : List Int} {e : Int} (h : blkE nb ng n l S = .error e) : e ≠ 0 := by
 unfold blkE at h
 split at h
 ·simp only [Except.error.injEq] at h; subst h; decide
 ·split at h
  ·simp only [Except.error.injEq] at h; subst h; decide
  ·split at h
   ·rename_i h1
    simp only [Except.error.injEq] at h; subst h
    exact irun_ne h1
   ·cases h
theorem irun_bd {W e0 : Int} {nb ng n : Nat} (h0 : 0 ≤ e0) (h1 : e0 ≤ W) : ∀ {l : List Ins} {j : Nat} {t t' : Sk}, Bd W e0 j t → irun nb ng n [] l t = .ok t' → Bd W e0 (j + l.length) t'
 | [], j, t, t', h, e => by cases e; exact h
 | x :: l, j, t, t', h, e => by
  rw [irun] at e
  split at e
  ·cases e
  ·rename_i t1 h2
   have := irun_bd h0 h1 (h.step h0 h1 h2) e
   rw [List.length_cons, show j + (l.length + 1) = j + 1 + l.length from by omega]; exact this
theorem blkE_bd {W : Int} {nb ng n : Nat} {l : List Ins} {S S' : List Int} (hS : SB W S) (hW : 0 ≤ W) (h : blkE nb ng n l S = .ok S') : SB (W + 64 + l.length) S' := by
 unfold blkE at h
 split at h
 ·cases h
 rename_i h1
 split at h
 ·cases h
 split at h
 ·cases h
 rename_i t h2
 cases h
 have h3 : S.getD n 0 ≤ W := by
  rw [List.getD]
  cases hg : S[n]? with
  | none => simpa using hW
  | some v => exact hS v (List.mem_of_getElem? hg)
 have := irun_bd (j := 0) (W := W) (e0 := S.getD n 0) (by omega) h3 ⟨⟨by simp, by simp⟩, ⟨by simp, by simp⟩, by simp, ⟨by simp, by simp⟩, hS.mono (by show W ≤ W + 64 + ((0 : Nat) : Int); omega)⟩ h2
 simpa using this.sb
end Go.Proofs.Eng
namespace Go.Proofs.Eng
open Go Go.Proofs
set_option maxRecDepth 100000
set_option maxHeartbeats 16000000
theorem KS.set {ki si q : Nat} {Bs : List AV} {t1 t2 t3 : Tl} {c : Cd} {S : List Int} {H : List AObj} (h : KS ki si Bs t1 t2 t3 c S H) {o : AObj} (h1 : q ≠ ki) (h2 : q ≠ si) : KS ki si Bs t1 t2 t3 c S (H.set q o) :=
 ⟨set_ne h.k h1, set_ne h.s h2, h.sl, h.ne, h.bl, h.p1, h.gl⟩
section
variable {ki si : Nat} {Bs : List AV} {t1 t2 t3 : Tl} {c : Cd} {S : List Int} {H : List AObj} {V : List Nat}
theorem block_chk (h : KS ki si Bs t1 t2 t3 c S H) {n : Nat} {l : List Ins} (hn : c.bl[n]? = some l) (hnm : ∀ x ∈ l, x.n.size ≤ lenB) {W : Int} (hS : SB W S) (hW : 0 ≤ W) (hWl : W + l.length ≤ 1000000000000000000) :
  Sh md pfs 89 [.ptr ki 0, .int n] ⟨H, V⟩ (fun v s => match blkE c.bl.length c.gl.length n l S with | .error e => v = .int e ∧ ∃ H', s = ⟨H', V⟩ | .ok S' => v = .int 0 ∧ ∃ H', s = ⟨H', V⟩ ∧ KS ki si Bs t1 t2 t3 c S' H' ∧ S'.length = S.length) fun _ _ => False := by
 have hB : B62 = 4611686018427387904 := rfl
 have hk := h.k
 have hs := h.s
 have hBl := h.bl.len
 have hnl : n < c.bl.length := (List.getElem?_eq_some_iff.1 hn).1
 obtain ⟨l', a, d0, _, _, d4, ⟨tb, rfl, htb, hll⟩⟩ := h.bl.at (i := n) (by omega)
 rw [hn] at d0; cases d0
 have hnS : n < S.length := by rw [h.sl]; exact hnl
 have hSn : (List.drop n (ints S)).head? = some (.int (S.getD n 0)) := by rw [List.head?_drop]; exact ints_atD hnS
 have hnB : (n : Int) < Bs.length := by omega
 have hnC : (n : Int) < c.bl.length := by omega
 have hallB : (Bs.all fun x => x.cells.length == 1) = true := List.all_eq_true.2 fun y hy => by
  obtain ⟨q, hq⟩ := List.mem_iff_getElem?.1 hy
  obtain ⟨b, a, _, _, _, e4, ⟨t, rfl, _⟩⟩ := h.bl.at (i := q) (List.getElem?_eq_some_iff.1 hq).1
  rw [hq] at e4; cases e4; rfl
 have hkl := lt_of_get hk
 have hsl := lt_of_get hs
 refine sh_of pf89_is (Nat.le_of_ble_eq_true rfl) ?_
 rw [blkE]
 cases d1 : decide (S.getD n 0 < 0)
 case true =>
  rw [if_pos (by simpa using d1)]
  simp only [pf89, ↓wpre, wall, simprocAttr, List.length_append, List.append_assoc, app_get_len, app_get_add, app_set_len, app_set_add, hk, hs, hnB, hnC, d4, hallB, Nat.mul_one, hSn, d1]
  exact ⟨_, rfl⟩
 rw [if_neg (by simpa using d1)]
 have d1' : ¬ S.getD n 0 < 0 := by simpa using d1
 cases d2 : (((l.length : Nat) : Int) == 0)
 case true =>
  have : l = [] := by have := eq_of_beq d2; exact List.length_eq_zero_iff.1 (by omega)
  rw [if_pos this]
  simp only [pf89, ↓wpre, wall, simprocAttr, List.length_append, List.append_assoc, app_get_len, app_get_add, app_set_len, app_set_add, hk, hs, hnB, hnC, d4, hallB, Nat.mul_one, hSn, insA_len, d1, d2]
  exact ⟨_, rfl⟩
 have d2' : l.length ≠ 0 := by have := ne_of_beq_false d2; omega
 rw [if_neg (fun e => d2' (by rw [e]; rfl))]
 generalize hS0 : S.getD n 0 = e0 at *
 have he0 : e0 ≤ W := by
  rw [← hS0, List.getD, List.getElem?_eq_getElem hnS]; exact hS _ (List.getElem_mem hnS)
 generalize hR : irun c.bl.length c.gl.length n [] l ⟨S, e0, 0, 0, 0⟩ = R
 simp only [pf89, ↓wpre, wall, simprocAttr, List.length_append, List.append_assoc, app_get_len, app_get_add, app_set_len, app_set_add, hk, hs, hnB, hnC, d4, hallB, Nat.mul_one, hSn, insA_len, d1, d2]
 refine W_loopE (fun j => l.length - j) (fun j E H1 V1 => j ≤ l.length ∧ V1 = V ∧ E 0 = .ptr ki 0 ∧ E 6 = .ptr H.length 0 ∧ E 5 = .sl (insA l) tb ∧ E 41 = .sl (insA l) tb ∧ E 42 = .int l.length ∧ E 43 = .int j ∧ ∃ t : Sk, KS ki si Bs t1 t2 t3 c t.S H1 ∧ t.S.length = S.length ∧ Bd W e0 j t ∧ H1[H.length]? = some (.cells false [.int n, .int t.env, .int t.stack, .int t.binds, .int t.br]) ∧ irun c.bl.length c.gl.length n [] (l.drop j) t = R) ?_ 0 ?_
 ·rintro j E H1 V1 ⟨hj, rfl, e0', e6, e5, e41, e42, e43, t, k1, k2, k3, k4, k5⟩
  rcases Nat.lt_or_ge j l.length with hlt | hge
  ·have hdec : decide ((j : Int) < l.length) = true := by simpa using hlt
   obtain ⟨x, x0, x4⟩ := insA_at hlt
   have hdr : l.drop j = x :: l.drop (j + 1) := by
    obtain ⟨h, rfl⟩ := List.getElem?_eq_some_iff.1 x0
    exact List.drop_eq_getElem_cons h
   rw [hdr, irun, List.append_nil] at k5
   obtain ⟨t', ht', hsu⟩ := slice_suf (es := 4) (al := insA l) htb (n := j + 1) (m := l.length) (by omega) (by rw [insA_len])
   have hsl2 : (insA l).drop (j + 1) = insA (l.drop (j + 1)) := by simp [insA]
   rw [hsl2] at hsu
   have kA := k1.app [.cells false [.int x.op, .int x.a, .int x.b, .str x.n]]
   have k4A := app_get_of k4 [AObj.cells false [.int x.op, .int x.a, .int x.b, .str x.n]]
   obtain ⟨_, _, ⟨rfl, G, rfl⟩, cf⟩ := (form_sh (V := V1) kA x (rest := l.drop (j + 1)) (t := t') t.br ht' (by rw [List.length_drop]; omega) (hnm x (List.mem_of_getElem? x0))).callRet rfl
   have wj : IntKind.i64.wrap ((j : Int) + 1) = ((j + 1 : Nat) : Int) := by rw [wrap_in (by unfold in64; omega)]; omega
   have hj1 : ((j + 1 : Nat) : Int) ≤ l.length := by omega
   have hx2 : (H1 ++ [AObj.cells false [.int x.op, .int x.a, .int x.b, .str x.n]] ++ G)[H1.length]? = some (.cells false [.int x.op, .int x.a, .int x.b, .str x.n]) := app_get_of (by simp) G
   have kG := kA.app G
   have k4G := app_get_of k4A G
   have hlH : H1.length < (H1 ++ [AObj.cells false [.int x.op, .int x.a, .int x.b, .str x.n]] ++ G).length := lt_of_get hx2
   generalize H1 ++ [AObj.cells false [.int x.op, .int x.a, .int x.b, .str x.n]] ++ G = H2 at *
   have hq1 : H.length ≠ H1.length := by have := lt_of_get k4; omega
   have hk1 : ki ≠ H1.length := by have := lt_of_get k1.k; omega
   have hs1 : si ≠ H1.length := by have := lt_of_get k1.s; omega
   have w42 : IntKind.i64.wrap (((l.length : Nat) : Int) - 1) = ((l.length - 1 : Nat) : Int) := by rw [wrap_in (by unfold in64; omega)]; omega
   have hlast : (((j : Nat) : Int) == ((l.length - 1 : Nat) : Int)) = (l.drop (j + 1)).isEmpty := by
    cases hd : l.drop (j + 1) with
    | nil =>
     have := List.drop_eq_nil_iff.1 hd
     rw [List.isEmpty_nil, beq_iff_eq]; omega
    | cons y r =>
     have := congrArg List.length hd
     rw [List.length_drop, List.length_cons] at this
     rw [List.isEmpty_cons, beq_eq_false_iff_ne]; omega
   simp only [Ins.av] at cf
   cases hf : (formE c.bl.length c.gl.length x (l.drop (j + 1)) t.br != 0)
   case true =>
    have hf' : formE c.bl.length c.gl.length x (l.drop (j + 1)) t.br ≠ 0 := by simpa [bne] using hf
    rw [stp, if_pos hf'] at k5
    rw [← k5]
    simp only [↓wpre, wall, simprocAttr, List.length_append, List.append_assoc, app_get_len, app_get_add, app_set_len, app_set_add, e0', e6, e5, e41, e42, e43, hdec, x4, insA_all, insA_len, k4A, wj, hj1, hsu, cf, hf]
    exact ⟨_, rfl⟩
   have hf' : formE c.bl.length c.gl.length x (l.drop (j + 1)) t.br = 0 := by simpa [bne] using hf
   obtain ⟨⟨f1, f2, f3, f4⟩, f5, f6, f7⟩ := form_ok hf'
   have kS := k3
   obtain ⟨⟨s1, s2⟩, ⟨b1, b2⟩, hen, ⟨r1, r2⟩, hsb⟩ := k3
   obtain ⟨vr, sr, hr, cr⟩ := (refers_sh (V := V1) kG k4G x (fun h => by
    rcases h with h | h
    ·exact ⟨f3, f5 (.inl h)⟩
    ·exact ⟨f3, f5 (.inr h)⟩) (by unfold in64; omega) (fun h => by have := f6 h; unfold in64; omega)).callRet rfl
   simp only [Ins.av] at cr
   rw [stp, if_neg (by rw [hf']; simp)] at k5
   cases hre : refE n x t with
   | error e =>
    have hne : (e != 0) = true := by
     have : stp c.bl.length c.gl.length n x (l.drop (j + 1)) t = .error e := by rw [stp, if_neg (by rw [hf']; simp), hre]
     simpa [bne] using stp_ne this
    rw [hre] at hr k5
    obtain ⟨rfl, G2, rfl⟩ := hr
    simp only at k5
    rw [← k5]
    simp only [↓wpre, wall, simprocAttr, List.length_append, List.append_assoc, app_get_len, app_get_add, app_set_len, app_set_add, e0', e6, e5, e41, e42, e43, hdec, x4, insA_all, insA_len, k4A, wj, hj1, hsu, cf, hf, hx2, cr, hne]
    exact ⟨_, rfl⟩
   | ok S1 =>
    rw [hre] at hr k5
    obtain ⟨rfl, hl1, G2, rfl⟩ := hr
    have kR := (kG.app G2).enter hl1
    have k4R := set_ne (x := .cells false (ints S1)) (j := si) (app_get_of k4G G2) (by have := lt_of_get h.s; omega)
    have hx3 := set_ne (x := .cells false (ints S1)) (j := si) (app_get_of hx2 G2) hs1
    generalize (H2 ++ G2).set si (.cells false (ints S1)) = H3 at *
    obtain ⟨ve, se, hxe, ce⟩ := (execute_sh (S := S1) (V := V1) k4R x (l.drop (j + 1)) f1 f2 f4 (by omega) (by omega) (by omega) (by omega)).callRet rfl
    simp only [Ins.av] at ce
    rw [← hlast] at ce
    simp only at k5
    have hxx : exeE x (l.drop (j + 1)) S1 t = exeE x (l.drop (j + 1)) S1 ⟨S1, t.env, t.stack, t.binds, t.br⟩ := rfl
    rw [hxx] at k5
    cases hee : exeE x (l.drop (j + 1)) S1 ⟨S1, t.env, t.stack, t.binds, t.br⟩ with
    | error e =>
     have hne : (e != 0) = true := by
      have : stp c.bl.length c.gl.length n x (l.drop (j + 1)) t = .error e := by
       rw [stp, if_neg (by rw [hf']; simp), hre]; exact hee
      simpa [bne] using stp_ne this
     rw [hee] at hxe k5
     obtain ⟨rfl, H', rfl⟩ := hxe
     simp only at k5
     rw [← k5]
     simp only [↓wpre, wall, simprocAttr, List.length_append, List.append_assoc, app_get_len, app_get_add, app_set_len, app_set_add, e0', e6, e5, e41, e42, e43, hdec, x4, insA_all, insA_len, k4A, wj, hj1, hsu, cf, hf, hx2, cr, hx3, w42, ce, hne]
     exact ⟨_, rfl⟩
    | ok t1 =>
     have hstp : stp c.bl.length c.gl.length n x (l.drop (j + 1)) t = .ok t1 := by
      rw [stp, if_neg (by rw [hf']; simp), hre]; exact hee
     rw [hee] at hxe k5
     obtain ⟨rfl, hS1, G3, rfl⟩ := hxe
     simp only at k5
     have kX := (kR.app G3).set (q := H.length) (o := .cells false [.int n, .int t1.env, .int t1.stack, .int t1.binds, .int t1.br]) (by omega) (by omega)
     have hlt3 := lt_of_get (app_get_of k4R G3)
     simp only [↓wpre, wall, simprocAttr, List.length_append, List.append_assoc, app_get_len, app_get_add, app_set_len, app_set_add, e0', e6, e5, e41, e42, e43, hdec, x4, insA_all, insA_len, k4A, wj, hj1, hsu, cf, hf, hx2, cr, hx3, w42, ce]
     exact EQ_in ⟨j + 1, by omega, by omega, rfl, e0', e6, e5, e41, e42, rfl, t1, by rw [hS1]; exact kX, by rw [hS1, hl1]; exact k2, kS.step (by omega) he0 hstp, by rw [List.getElem?_set, if_pos rfl, if_pos hlt3], k5⟩
  ·have hdec : decide ((j : Int) < l.length) = false := by simpa using hge
   rw [List.drop_eq_nil_of_le (by omega), irun] at k5
   rw [← k5]
   simp only [↓wpre, wall, simprocAttr, List.length_append, List.append_assoc, app_get_len, app_get_add, app_set_len, app_set_add, e0', e6, e5, e41, e42, e43, hdec]
   exact ⟨_, rfl, k1, k2⟩
 ·have kA := h.app [.cells false [.int n, .int e0, .int 0, .int 0, .int 0]]
  refine ⟨Nat.zero_le _, rfl, rfl, rfl, rfl, rfl, rfl, rfl, ⟨S, e0, 0, 0, 0⟩, kA, rfl, ⟨by simp, by simp, by simp, by simp, hS.mono (by show W ≤ W + 64 + ((0 : Nat) : Int); omega)⟩, by simp, by rw [List.drop_zero]; exact hR⟩
end
end Go.Proofs.Eng
namespace Go.Proofs.Eng
open Go Go.Proofs
set_option maxRecDepth 100000
set_option maxHeartbeats 16000000
theorem rep_call (H : List AObj) (V : List Nat) (z : Int) (t : Tl) (n : Nat) (h1 : 1 ≤ n) (h2 : n ≤ 1000000) (K KP) : CW (run md pfs) md false ⟨H, V⟩ 88 [.sl [.int z] t, .int n] K KP () = K (.bs H.length 0 n 1 false) ⟨H ++ [.cells false (ints (List.replicate n z))], V⟩ := by
 have h := run_ora (md := md) (pfs := pfs) (f := 88) (pf := ⟨0, [], .ora repO⟩) (by simp [pfs]) rfl (args := [.sl [.int z] t, .int n]) (v := .bs H.length 0 n 1 false) (s := ⟨H, V⟩) (s' := ⟨H ++ [.cells false (ints (List.replicate n z))], V⟩) (by
  simp only [repO, AV.int]
  rw [if_pos (by omega)]
  simp [ints])
 simp [CW, callA, show md 88 = .raw from rfl, h]
theorem eqIn : ∀ l : List Ins, eqAVs (insA l) (insA l) = true
 | [] => by rw [insA, List.map_nil, eqAVs]
 | x :: l => by
  have := eqIn l
  simp only [insA] at this ⊢
  rw [List.map_cons, eqAVs, this, Ins.av, eqAV, eqAVs, eqAVs, eqAVs, eqAVs, eqAVs, eqI, eqI, eqI, eqS]; rfl
theorem eqNm : ∀ l : List ByteArray, eqAVs (nmA l) (nmA l) = true
 | [] => by rw [nmA, List.map_nil, eqAVs]
 | x :: l => by
  have := eqNm l
  simp only [nmA] at this ⊢
  rw [List.map_cons, eqAVs, this, eqS]; rfl
theorem eqBl {l : List (List Ins)} {al : List AV} (h : LIs blIs l al) : eqAVs al al = true := eqL (R := blIs) (fun x _ a ⟨t, e, _⟩ => by rw [e]; exact eqT _ _ (eqIn _)) h
theorem sum_take : ∀ (l : List Nat) (n : Nat), (l.take n).sum ≤ l.sum
 | [], n => by simp
 | x :: l, 0 => by simp
 | x :: l, n + 1 => by have := sum_take l n; simp; omega
theorem code_ret {c : Cd} {a : AV} (h : c.Is a) (hn : ∀ g ∈ c.gl, g.size ≤ lenB) (hnm : ∀ b ∈ c.bl, ∀ x ∈ b, x.n.size ≤ lenB) (hb : c.bl.length ≤ 1000000) (hsum : (c.bl.map List.length).sum ≤ 1000000000000) : Out md pfs 38 [a] (· = .int c.check) fun _ => False := by
 obtain ⟨Bs, t1, t2, t3, rfl, g1, g2, g3, g4, g5, g6, g7⟩ := id h
 have hBl := g1.len
 refine out_of pf38_is (Nat.le_of_ble_eq_true rfl) ?_
 obtain ⟨_, rfl, co⟩ := (outline_ret h hn).call rfl (by simp [pvs_cons, pvs_nil, cdPure h])
 rw [Cd.check]
 cases ho : (c.outE != 0)
 case true =>
  rw [if_pos (by simpa [bne] using ho)]
  simp only [pf38, ↓wpre, wall, simprocAttr, List.length_append, List.append_assoc, app_get_len, app_get_add, app_set_len, app_set_add, co, ho]
 have ho' : c.outE = 0 := by simpa [bne] using ho
 rw [if_neg (by rw [ho']; simp)]
 rw [ho'] at co
 have hoo : c.bl ≠ [] ∧ (c.st.any fun s => decide (s < 1) || decide ((c.bl.length : Int) ≤ s)) = false := by
  unfold Cd.outE at ho'
  split at ho'
  ·omega
  rename_i hh
  exact ⟨fun e => hh (.inl e), by
   cases hx : (c.st.any fun s => decide (s < 1) || decide ((c.bl.length : Int) ≤ s)) with
   | false => rfl
   | true => exact absurd (.inr (.inr (.inl hx))) hh⟩
 obtain ⟨hne, hst⟩ := hoo
 have hb1 : 1 ≤ c.bl.length := by
  rcases Nat.eq_zero_or_pos c.bl.length with h | h
  ·exact absurd (List.length_eq_zero_iff.1 h) hne
  ·exact h
 have hrc := fun (K KP) => rep_call [.cells false [.sl Bs t1, .sl (nmA c.gl) t2, .sl (ints c.st) t3]] [] (-1) (.cap 1) c.bl.length hb1 hb K KP
 rw [← hBl] at hrc
 have heq : eqAV (.agg [.sl Bs t1, .sl (nmA c.gl) t2, .sl (ints c.st) t3]) (.agg [.sl Bs t1, .sl (nmA c.gl) t2, .sl (ints c.st) t3]) = true := by
  rw [eqAV, eqAVs, eqAVs, eqAVs, eqAVs, eqT _ _ (eqBl g1), eqT _ _ (eqNm _), eqT _ _ (eqIs _)]; rfl
 have hB1 : (0 : Int) < ((Bs.length : Nat) : Int) := by omega
 simp only [pf38, ↓wpre, wall, simprocAttr, List.length_append, List.append_assoc, app_get_len, app_get_add, app_set_len, app_set_add, co, hrc, heq, hB1]
 refine ⟨by rw [ints_len, List.length_replicate, hBl]; exact hb1, ?_⟩
 let stf : List Int → List Int → List Int := fun l S => l.foldl (fun S s => S.set s.toNat 0) S
 refine W_loopE (fun j => c.st.length - j) (fun j E H V => j ≤ c.st.length ∧ V = [] ∧ E 1 = .ptr 0 0 ∧ E 4 = .ptr 2 0 ∧ E 28 = .sl (ints c.st) t3 ∧ E 29 = .int c.st.length ∧ E 30 = .int j ∧ H[0]? = some (.cells false [.sl Bs t1, .sl (nmA c.gl) t2, .sl (ints c.st) t3]) ∧ ∃ S, KS 2 1 Bs t1 t2 t3 c S H ∧ SB 0 S ∧ (c.st.drop j).foldl (fun S s => S.set s.toNat 0) S = c.S0) ?_ 0 ?start
 case start =>
  refine ⟨Nat.zero_le _, rfl, rfl, rfl, rfl, by rw [← ints_len]; rfl, rfl, rfl, (List.replicate c.bl.length (-1)).set 0 0, ⟨by rw [← hBl]; rfl, ?_, by simp, by decide, g1, g2, g6⟩, ?_, rfl⟩
  ·rw [← set_ints (by rw [List.length_replicate]; exact hb1), ← hBl]; rfl
  ·refine SB.set (fun s hs => ?_) (Int.le_refl _)
   rw [(List.mem_replicate.1 hs).2]; decide
 rintro j E H V ⟨hj, rfl, e1, e4, e28, e29, e30, hH0, S, kS, hS, hf⟩
 have hk := kS.k
 have hs := kS.s
 rcases Nat.lt_or_ge j c.st.length with hlt | hge
 ·have hdec : decide ((j : Int) < c.st.length) = true := by simpa using hlt
  obtain ⟨x, x0, x4⟩ := ints_at hlt
  have hdr : c.st.drop j = x :: c.st.drop (j + 1) := by
   obtain ⟨h, rfl⟩ := List.getElem?_eq_some_iff.1 x0
   exact List.drop_eq_getElem_cons h
  have hx := List.any_eq_false.1 hst x (List.mem_of_getElem? x0)
  simp only [Bool.or_eq_true, decide_eq_true_eq, not_or] at hx
  obtain ⟨m, rfl⟩ : ∃ m : Nat, x = m := ⟨x.toNat, by omega⟩
  have hm : (m : Int) < c.bl.length := by omega
  have hmS : m < S.length := by rw [kS.sl]; omega
  have hset := set_ints (v := 0) hmS
  have hml : m + 1 ≤ (ints S).length := by rw [ints_len]; omega
  rw [hdr, List.foldl_cons, Int.toNat_natCast] at hf
  simp only [↓wpre, wall, simprocAttr, List.length_append, List.append_assoc, app_get_len, app_get_add, app_set_len, app_set_add, e1, e4, e28, e29, e30, hdec, x4, ints_all, ints_len, hk, hs, hm, Nat.mul_one, hset, hml]
  exact ⟨hmS, EQ_in ⟨j + 1, by omega, by omega, rfl, e1, e4, e28, e29, next_ixv (by omega), set_ne hH0 (by decide), _, kS.enter (S' := S.set m 0) (by simp), hS.set (Int.le_refl _), hf⟩⟩
 ·have hdec : decide ((j : Int) < c.st.length) = false := by simpa using hge
  simp only [↓wpre, wall, simprocAttr, List.length_append, List.append_assoc, app_get_len, app_get_add, app_set_len, app_set_add, e1, e4, e28, e29, e30, hdec, hH0]
  rw [List.drop_eq_nil_of_le (by omega), List.foldl_nil] at hf
  subst hf
  have hBn : ((Bs.length : Nat) : Int) = ((c.bl.length : Nat) : Int) := by rw [hBl]
  refine W_loopE (fun j => c.bl.length - j) (fun n E H V => n ≤ c.bl.length ∧ V = [] ∧ E 4 = .ptr 2 0 ∧ E 43 = .int c.bl.length ∧ E 44 = .int n ∧ ∃ S, KS 2 1 Bs t1 t2 t3 c S H ∧ SB ((64 * n + ((c.bl.map List.length).take n).sum : Nat) : Int) S ∧ goB c.bl.length c.gl.length n (c.bl.drop n) S = goB c.bl.length c.gl.length 0 c.bl c.S0) ?_ 0 ⟨Nat.zero_le _, rfl, e4, by rw [← hBn]; rfl, rfl, _, kS, hS.mono (by simp), rfl⟩
  rintro n E H V ⟨hn1, rfl, e4, e43, e44, S, kS, hS, hg⟩
  rcases Nat.lt_or_ge n c.bl.length with hlt | hge
  ·have hdec : decide ((n : Int) < c.bl.length) = true := by simpa using hlt
   have hx : c.bl[n]? = some c.bl[n] := List.getElem?_eq_getElem hlt
   generalize c.bl[n] = l at hx
   have hdr : c.bl.drop n = l :: c.bl.drop (n + 1) := by
    obtain ⟨h, rfl⟩ := List.getElem?_eq_some_iff.1 hx
    exact List.drop_eq_getElem_cons h
   have htk : ((c.bl.map List.length).take (n + 1)).sum = ((c.bl.map List.length).take n).sum + l.length := by
    rw [List.take_add_one, List.getElem?_map, hx]; simp
   have hle := sum_take (c.bl.map List.length) (n + 1)
   obtain ⟨v, s, hv, hc⟩ := (block_chk (V := []) kS hx (hnm l (List.mem_of_getElem? hx)) hS (by omega) (by omega)).callRet rfl
   rw [hdr, goB_blk] at hg
   cases hbk : blkE c.bl.length c.gl.length n l S with
   | error e =>
    rw [hbk] at hv hg
    have hne : (e != 0) = true := by simpa [bne] using blkE_ne hbk
    obtain ⟨rfl, H', rfl⟩ := hv
    simp only at hg
    rw [← hg]
    simp only [↓wpre, wall, simprocAttr, List.length_append, List.append_assoc, app_get_len, app_get_add, app_set_len, app_set_add, e4, e43, e44, hdec, hc, hne]
   | ok S' =>
    have hS' := blkE_bd hS (by omega) hbk
    rw [hbk] at hv hg
    obtain ⟨rfl, H', rfl, kS', hl'⟩ := hv
    simp only at hg
    simp only [↓wpre, wall, simprocAttr, List.length_append, List.append_assoc, app_get_len, app_get_add, app_set_len, app_set_add, e4, e43, e44, hdec, hc]
    exact EQ_in ⟨n + 1, by omega, by omega, rfl, e4, e43, next_ixv (by omega), S', kS', hS'.mono (by rw [htk]; omega), hg⟩
  ·have hdec : decide ((n : Int) < c.bl.length) = false := by simpa using hge
   rw [List.drop_eq_nil_of_le (by omega), goB] at hg
   simp only [↓wpre, wall, simprocAttr, List.length_append, List.append_assoc, app_get_len, app_get_add, app_set_len, app_set_add, e4, e43, e44, hdec]
   rw [← hg]
end Go.Proofs.Eng
namespace Go.Proofs.Eng
open Go Go.Proofs
set_option maxRecDepth 100000
theorem cells3 : 0 < Tryz.prog.cellsOf 3 := by rw [show Tryz.prog.cellsOf 3 = 1 from by kernel_rfl]; decide
theorem oft_int {n : Nat} {l : List AV} (h : OfT Tryz.prog n 3 l) : ∃ i, l = [.int i] ∧ in64 i := by
 cases n with
 | zero => exact h.elim
 | succ n =>
  simp only [OfT, Tryz.underlying3] at h
  obtain ⟨i, rfl, hw⟩ := h
  refine ⟨i, rfl, ?_⟩
  unfold in64
  simp [Lit.wf, IntKind.min, IntKind.max, IntKind.signed, IntKind.bits] at hw
  omega
theorem oft_str {n : Nat} {l : List AV} (h : OfT Tryz.prog n 9 l) : ∃ s, l = [.str s] ∧ s.size ≤ lenB := by
 cases n with
 | zero => exact h.elim
 | succ n =>
  simp only [OfT, Tryz.underlying9] at h
  obtain ⟨s, rfl, hw⟩ := h
  exact ⟨s, rfl, by unfold lenB; simpa [maxLen] using hw⟩
theorem oft_slice {α : Type} {R : α → AV → Prop} {n : Nat} {t e : TypeId} {l : List AV} (hu : Tryz.prog.underlying t = some (.slice e)) (hc : 0 < Tryz.prog.cellsOf e) (hR : ∀ n l, OfT Tryz.prog n e l → ∃ x, R x (mkE (isAgg Tryz.prog e) l)) (h : OfT Tryz.prog n t l) : ∃ (xs : List α) (al : List AV) (tl : Tl), l = [.sl al tl] ∧ LIs R xs al ∧ tl.pure = true ∧ al.length ≤ lenB := by
 cases n with
 | zero => exact h.elim
 | succ n =>
  simp only [OfT, hu, if_pos hc] at h
  obtain ⟨xs, tl, rfl, h1, h2, h3⟩ := h
  have key : ∀ xs : List (List AV), (∀ x ∈ xs, OfT Tryz.prog n e x) → ∃ ys : List α, LIs R ys (xs.map (mkE (isAgg Tryz.prog e))) := by
   intro xs
   induction xs with
   | nil => intro _; exact ⟨[], trivial⟩
   | cons x xs ih =>
    intro h
    obtain ⟨y, hy⟩ := hR n x (h x (by simp))
    obtain ⟨ys, hys⟩ := ih fun z hz => h z (by simp [hz])
    exact ⟨y :: ys, hy, hys⟩
  obtain ⟨ys, hys⟩ := key xs h3
  refine ⟨ys, _, tl, rfl, hys, ?_, by rw [List.length_map]; unfold lenB; simpa [maxLen] using h2⟩
  rcases h1 with rfl | ⟨rfl, _⟩ <;> rfl
theorem oft_ints {n : Nat} {l : List AV} (h : OfT Tryz.prog n 24 l) : ∃ s tl, l = [.sl (ints s) tl] ∧ tl.pure = true ∧ s.length ≤ lenB := by
 obtain ⟨xs, al, tl, rfl, h1, h2, h3⟩ := oft_slice (R := fun (i : Int) a => a = .int i) Tryz.underlying24 cells3 (fun n l h => by
  obtain ⟨i, rfl, _⟩ := oft_int h
  exact ⟨i, by rw [show isAgg Tryz.prog 3 = false from by kernel_rfl]; rfl⟩) h
 have : ∀ {xs : List Int} {al : List AV}, LIs (fun (i : Int) a => a = .int i) xs al → al = ints xs := by
  intro xs
  induction xs with
  | nil => intro al h; cases al with
   | nil => rfl
   | cons => exact h.elim
  | cons x xs ih => intro al h; cases al with
   | nil => exact h.elim
   | cons a al => obtain ⟨rfl, h⟩ := h; rw [ih h]; rfl
 have e := this h1
 subst e
 exact ⟨xs, tl, rfl, h2, by rw [← ints_len]; exact h3⟩
theorem two {α : Type} {l : List α} (h : l.length = 2) : ∃ a b, l = [a, b] := by
 match l, h with
 | [a, b], _ => exact ⟨a, b, rfl⟩
theorem purify_v_inv {n : Nat} {s : ASt} {x : AV} {y : Value} (h : purify n s x = some (.v y)) : x = .v y := by
 cases n with
 | zero => rw [purify] at h; cases h
 | succ n =>
  unfold purify at h
  split at h
  ·cases h; rfl
  ·split at h
   all_goals first
    | (cases h; done)
    | (rw [Option.map_eq_some_iff] at h; obtain ⟨_, _, h⟩ := h; cases h; done)
    | skip
   split at h
   ·split at h
    ·rw [Option.map_eq_some_iff] at h; obtain ⟨_, _, h⟩ := h; cases h
    ·cases h
   ·cases h
theorem law_true {pfs2 : FuncId → Option PF} {f : FuncId} {ls : List AV} (h : Out md pfs2 f ls (· = .bool true) fun _ => False) : ∃ s', run md pfs2 f ls ⟨[], []⟩ = some (.ret (.v (.bool true)), s') := by
 obtain ⟨out, s, out', h1, h2, h3⟩ := h
 cases out' with
 | pan v => exact h3.elim
 | ret v =>
  subst h3
  cases out with
  | pan w => simp [Outc.purify] at h2
  | ret w =>
   simp only [Outc.purify, Option.map_eq_some_iff] at h2
   obtain ⟨y, h2, h3⟩ := h2
   cases h3
   exact ⟨s, by rw [h1, purify_v_inv h2]⟩
end Go.Proofs.Eng
namespace Go.Proofs.Eng
open Go Go.Proofs
set_option maxRecDepth 100000
set_option maxHeartbeats 16000000
theorem uses_ret (op : Int) : Out md pfs 152 [.int op] (· = .tup [.bool (usesA op), .bool (usesB op), .bool (usesN op)]) fun _ => False := by
 refine out_of pf152_is (Nat.le_of_ble_eq_true rfl) ?_
 have h : op = 0 ∨ op = 1 ∨ op = 5 ∨ op = 7 ∨ op = 6 ∨ op = 4 ∨ ((op == 0) = false ∧ (op == 1) = false ∧ (op == 5) = false ∧ (op == 7) = false ∧ (op == 6) = false ∧ (op == 4) = false) := by
  simp only [beq_eq_false_iff_ne]; omega
 rcases h with rfl | rfl | rfl | rfl | rfl | rfl | ⟨h0, h1, h5, h7, h6, h4⟩
 all_goals first
  | (simp only [pf152, ↓wpre, wall, simprocAttr, usesA, usesB, usesN]; done)
  | (simp only [pf152, ↓wpre, wall, simprocAttr, usesA, usesB, usesN]; rfl)
  | (simp only [pf152, ↓wpre, wall, simprocAttr, usesA, usesB, usesN, h0, h1, h5, h7, h6, h4]; first | done | rfl)
theorem pops_ret (x : Ins) (h0 : 0 ≤ x.op) (h1 : x.op ≤ 14) : Out md pfs 115 [x.av] (· = .tup [.int (popI x), .int (pushI x)]) fun _ => False := by
 obtain ⟨op, a, b, n⟩ := x
 simp only at h0 h1
 refine out_of pf115_is (Nat.le_of_ble_eq_true rfl) ?_
 have h : op = 0 ∨ op = 1 ∨ op = 2 ∨ op = 3 ∨ op = 4 ∨ op = 5 ∨ op = 6 ∨ op = 7 ∨ op = 8 ∨ op = 9 ∨ op = 10 ∨ op = 11 ∨ op = 12 ∨ op = 13 ∨ op = 14 := by omega
 rcases h with rfl | rfl | rfl | rfl | rfl | rfl | rfl | rfl | rfl | rfl | rfl | rfl | rfl | rfl | rfl
 all_goals
  simp only [pf115, ↓wpre, wall, simprocAttr, Ins.av, popI, pushI]
  first | done | rfl | simp
section
variable {ki si : Nat} {Bs : List AV} {t1 t2 t3 : Tl} {c : Cd} {S : List Int} {H : List AObj} {V : List Nat}
theorem rent_sh (h : KS ki si Bs t1 t2 t3 c S H) {n : Nat} {b : Int} {m : Int} (h0 : 0 ≤ b) (h1 : b < c.bl.length) :
  Sh md pfs 114 [.ptr ki 0, .int b, .int m, .int n] ⟨H, V⟩ (fun v s => match entE n S b m with | .error e => v = .int e ∧ s = ⟨H, V⟩ | .ok S' => v = .int 0 ∧ s = ⟨H.set si (.cells false (ints S')), V⟩) fun _ _ => False := by
 obtain ⟨b, rfl⟩ : ∃ k : Nat, b = k := ⟨b.toNat, by omega⟩
 have hk := h.k
 have hs := h.s
 have hlt : b < S.length := by rw [h.sl]; omega
 have hb : (List.drop b (ints S)).head? = some (.int (S.getD b 0)) := by rw [List.head?_drop]; exact ints_atD hlt
 have hbs : (b : Int) < ((ints S).length : Nat) := by rw [ints_len]; omega
 have hset := set_ints (v := m) hlt
 have hlb : (b : Int) < c.bl.length := h1
 rw [entE]
 simp only [Int.toNat_natCast]
 cases d1 : decide (S.getD b 0 ≥ 0)
 ·rw [if_neg (by simpa using d1)]
  cases d2 : decide ((b : Int) ≤ (n : Nat))
  ·rw [if_neg (by simpa using d2)]
   refine sh_of pf114_is (Nat.le_of_ble_eq_true rfl) ?_
   simp only [pf114, ↓wpre, wall, simprocAttr, List.length_append, List.append_assoc, app_get_len, app_get_add, app_set_len, app_set_add, hk, hs, Nat.mul_one, hb, hbs, hlb, d1, d2, hset]
   rw [ints_len]; omega
  ·rw [if_pos (by simpa using d2)]
   refine sh_of pf114_is (Nat.le_of_ble_eq_true rfl) ?_
   simp only [pf114, ↓wpre, wall, simprocAttr, List.length_append, List.append_assoc, app_get_len, app_get_add, app_set_len, app_set_add, hk, hs, Nat.mul_one, hb, hbs, hlb, d1, d2]
 ·rw [if_pos (by simpa using d1)]
  refine sh_of pf114_is (Nat.le_of_ble_eq_true rfl) ?_
  simp only [pf114, ↓wpre, wall, simprocAttr, List.length_append, List.append_assoc, app_get_len, app_get_add, app_set_len, app_set_add, hk, hs, Nat.mul_one, hb, hbs, hlb, d1]
end
end Go.Proofs.Eng
