/- The builder: a node whose variables are replaced. No conditions beyond those in the theorems. -/
import Derived.Test.YtjiheebhmokfbaaDoorC7
import Derived.Test.YtjiheebhmokfbaaDoorT11
import Derived.Test.YtjiheebhmokfbaaDoorT15
set_option linter.all false
set_option linter.deprecated false
set_option linter.unnecessarySimpa false
set_option linter.unusedVariables false
set_option linter.unusedSimpArgs false
set_option linter.defProp false
namespace Go.Proofs.Eng
open Go Go.Proofs
set_option maxRecDepth 100000
set_option maxHeartbeats 16000000
theorem stripR_pure (n : Nat) (s : ASt) (t : Tl) : (t.stripR n s).pure = true := by
 cases t <;> simp only [Tl.stripR] <;> (try split) <;> rfl
theorem eqTm (x : Tm) : ∀ {a : AV}, x.Is a → eqAV a a = true := by
 induction x using Tm.ind with
 | h k i nm ls kids ih =>
 intro a h
 obtain ⟨t1, t2, las, kas, rfl, _, _, _, _, _, _, _, g8, g9⟩ := h.opn
 have e2 : eqAVs kas kas = true := eqL (R := fun _ a => eqAV a a = true) (fun _ _ h => h) (g9.mono fun x hx a h => ih x hx h)
 rw [eqAV, eqAVs, eqAVs, eqAVs, eqAVs, eqAVs, eqAVs, eqI, eqI, eqS, eqT _ _ (eqL (fun _ _ h => eqLv h) g8), eqT _ _ e2]; rfl
theorem tm_pz {m : Nat} {s : ASt} {k i : Int} {n : ByteArray} {las kas : List AV} {t1 t2 : Tl} (h1 : pureAV (.sl las t1) = true) (h2 : pureAVs kas = true) : purify (m + 3) s (.agg [.int k, .int i, .str n, .sl las t1, .sl kas t2]) = some (.agg [.int k, .int i, .str n, .sl las t1, .sl kas (t2.stripR (m + 1) s)]) := by
 rw [pz_agg]
 simp only [mapO, purify_pure (n := m + 1) pv_v, purify_pure (n := m + 1) h1, pz_sl, mapO_at h2, Option.map_some]
end Go.Proofs.Eng
namespace Go.Proofs.Eng
section
variable (fr : Int) (var : Int → Nat → Tm) (ve : Int → Nat → Bool)
mutual
def Tm.mv (d : Nat) : Tm → Tm
 | .mk k i n ls kids => if ((Tm.mk k i n ls kids).fv : Int) ≤ fr + d then .mk k i n ls kids else if k = 0 then var i d else .mk k i n ls (mvL d k 0 kids)
def mvL (d : Nat) (k : Int) : Nat → List Tm → List Tm
 | _, [] => []
 | j, t :: l => t.mv (d + (binderG k j).toNat) :: mvL d k (j + 1) l
end
mutual
def Tm.me (d : Nat) : Tm → Bool
 | .mk k i n ls kids => if ((Tm.mk k i n ls kids).fv : Int) ≤ fr + d then false else if k = 0 then ve i d else meL d k 0 kids
def meL (d : Nat) (k : Int) : Nat → List Tm → Bool
 | _, [] => false
 | j, t :: l => t.me (d + (binderG k j).toNat) || meL d k (j + 1) l
end
end
section
variable {fr : Int} {var : Int → Nat → Tm} {ve : Int → Nat → Bool}
end
end Go.Proofs.Eng
namespace Go.Proofs.Eng
open Go Go.Proofs
set_option maxRecDepth 100000
set_option maxHeartbeats 16000000
structure StpP (bi : Nat) (P : Nat → Prop) (H : List AObj) (V : List Nat) (H' : List AObj) (V' : List Nat) : Prop where
 fr : FrI H H'
 vk : VK bi H V H' V'
 cells : ∀ (k : Nat) (fz : Bool) (c : List AV), k ≠ bi → H[k]? = some (.cells fz c) → H'[k]? = some (.cells fz c)
 maps : ∀ (k : Nat) (es : List (AV × AV)), P k → H[k]? = some (.map es) → H'[k]? = some (.map es)
 bk : ∀ Q, BK bi Q H → BK bi (fun k => Q k ∨ H.length ≤ k) H'
theorem StpP.trans {bi : Nat} {P : Nat → Prop} {A B C : List AObj} {V V' V'' : List Nat} (h : StpP bi P A V B V') (k : StpP bi P B V' C V'') : StpP bi P A V C V'' :=
 ⟨h.fr.trans k.fr, h.vk.trans k.vk, fun i fz c h1 h2 => k.cells i fz c h1 (h.cells i fz c h1 h2), fun i es h1 h2 => k.maps i es h1 (h.maps i es h1 h2), fun Q hQ => (k.bk _ (h.bk Q hQ)).same rfl fun i h1 => h1.elim id fun h1 => .inr (Nat.le_trans h.fr.1 h1)⟩
theorem StpP.mono {bi : Nat} {P P' : Nat → Prop} {A B : List AObj} {V V' : List Nat} (h : StpP bi P A V B V') (hp : ∀ k, P' k → P k) : StpP bi P' A V B V' := ⟨h.fr, h.vk, h.cells, fun k es h1 h2 => h.maps k es (hp k h1) h2, h.bk⟩
theorem StpP.app {bi : Nat} {P : Nat → Prop} {H : List AObj} (V : List Nat) (hb : bi < H.length) (G : List AObj) : StpP bi P H V (H ++ G) V := ⟨.app _ _, VK.same V (List.getElem?_append_left hb), fun _ _ _ _ h => app_get_of h G, fun _ _ _ h => app_get_of h G, fun Q hQ => hQ.same (List.getElem?_append_left hb) fun _ h => .inl h⟩
theorem BS.bk {bi mi : Nat} {sc : Bool} {T : List Tm} {H : List AObj} {V : List Nat} (h : BS bi mi sc T H V) : BK bi (fun k => k < H.length) H := by
 obtain ⟨_, al, tn, tf, es, b1, _, b3, _⟩ := h
 intro al' tn' x y z w e a ha k ⟨c0, c1, c2, c3, kv, e1, o, len, es', ag, e2⟩
 rw [b1] at e
 simp only [Option.some.injEq, AObj.cells.injEq, List.cons.injEq, AV.sl.injEq, true_and, and_true] at e
 obtain ⟨⟨rfl, _⟩, _⟩ := e
 obtain ⟨i, hi⟩ := List.getElem?_of_mem ha
 obtain ⟨n, c, _, h2, _, _, t1, las, kv', h5, _, _, _, _, _, _, _, _, h6⟩ := ndh_get b3 (List.getElem?_eq_some_iff.1 hi).1
 rw [hi, Option.some.injEq, e1] at h2
 rw [← h2] at h5
 simp only [AV.agg.injEq, List.cons.injEq, true_and, and_true] at h5
 obtain ⟨_, _, _, _, rfl⟩ := h5
 rcases h6 with ⟨t, h6⟩ | ⟨q, fz, h6, h7⟩
 ·rw [e2] at h6; cases h6
 ·rw [e2] at h6
  simp only [AV.bs.injEq] at h6
  rw [h6.1]; exact lt_of_get h7
section
variable (fr : Int) (var : Int → Nat → Tm) (ve : Int → Nat → Bool)
def dmE (T : List Tm) (p : Tm × Nat) : AV × AV := (.agg [.int (T.idxOf p.1 : Nat), .int (p.2 : Nat)], .int (T.idxOf (p.1.mv fr var p.2) : Nat))
def DM (T : List Tm) (sc : Bool) (es : List (AV × AV)) : Prop := ∃ L : List (Tm × Nat), es = L.map (dmE fr var T) ∧ ∀ p ∈ L, p.1 ∈ T ∧ p.1.mv fr var p.2 ∈ T ∧ (p.1.me fr ve p.2 = true → sc = true)
structure VOk (bi mi dm base : Nat) (P : Nat → Prop) (J : Bool → List AObj → List Tm → Prop) (f : FuncId) (caps : List AV) : Prop where
 call : ∀ {sc : Bool} {T : List Tm} {H : List AObj} {V : List Nat} {i : Int} {d : Nat}, BS bi mi sc T H V → GT T → J sc H T → base ≤ H.length → 0 ≤ i → i ≤ 2147483647 → fr + d ≤ i → d ≤ 1000000 → ((var i d).enter T).length ≤ 65536 →
  ∃ H' V', BS bi mi (sc || ve i d) ((var i d).enter T) H' V' ∧ StpP bi (fun k => P k ∨ k = dm) H V H' V' ∧ J (sc || ve i d) H' ((var i d).enter T) ∧ ∀ K KP, CW (run md pfs) md false ⟨H, V⟩ f ([.int i, .int (d : Nat)] ++ caps) K KP () = K (.int (((var i d).enter T).idxOf (var i d) : Nat)) ⟨H', V'⟩
 stab : ∀ {sc sc' : Bool} {H H' : List AObj} {T m : List Tm}, J sc H T → (sc = true → sc' = true) → (∀ (k : Nat) (fz : Bool) (c : List AV), k < base → k ≠ bi → H[k]? = some (.cells fz c) → H'[k]? = some (.cells fz c)) → (∀ (k : Nat) (es : List (AV × AV)), k ≠ mi → k ≠ dm → H[k]? = some (.map es) → H'[k]? = some (.map es)) → J sc' H' (T ++ m)
 pd : ¬ P dm
 pm : ¬ P mi
 nb : dm ≠ bi
 nm : dm ≠ mi
 right : ∀ i d, ∀ y ∈ (var i d).subs, y.right = true
end
section
variable {fr : Int} {var : Int → Nat → Tm} {ve : Int → Nat → Bool}
theorem DM.grow {T m : List Tm} {sc sc' : Bool} {es : List (AV × AV)} (h : DM fr var ve T sc es) (hs : sc = true → sc' = true) : DM fr var ve (T ++ m) sc' es := by
 obtain ⟨L, rfl, h2⟩ := h
 refine ⟨L, List.map_congr_left fun p hp => ?_, fun p hp => ?_⟩
 ·obtain ⟨h3, h4, _⟩ := h2 p hp
  rw [dmE, dmE, idx_pre h3, idx_pre h4]
 ·obtain ⟨h3, h4, h5⟩ := h2 p hp
  exact ⟨List.mem_append_left _ h3, List.mem_append_left _ h4, fun h => hs (h5 h)⟩
end
end Go.Proofs.Eng
namespace Go.Proofs.Eng
open Go Go.Proofs
set_option maxRecDepth 100000
set_option maxHeartbeats 16000000
section
variable {fr : Int} {var : Int → Nat → Tm} {ve : Int → Nat → Bool}
theorem flat_rep (w : Nat) : flat (List.replicate w (AV.v (.int .i64 0))) = ints (List.replicate w 0) := by
 induction w with
 | zero => rfl
 | succ w ih => rw [List.replicate_succ, flat_cons, ih]; rfl
structure MvP (fr : Int) (var : Int → Nat → Tm) (ve : Int → Nat → Bool) (bi mi dm : Nat) (P : Nat → Prop) (J : Bool → List AObj → List Tm → Prop) (sc : Bool) (T : List Tm) (H : List AObj) (V : List Nat) (es : List (AV × AV)) : Prop where
 bs : BS bi mi sc T H V
 gt : GT T
 map : H[dm]? = some (.map es)
 dm : DM fr var ve T sc es
 j : J sc H T
theorem VOk.japp {bi mi dm base : Nat} {P : Nat → Prop} {J : Bool → List AObj → List Tm → Prop} {f : FuncId} {caps : List AV} (hV : VOk fr var ve bi mi dm base P J f caps) {sc : Bool} {H : List AObj} {T : List Tm} (h : J sc H T) (G : List AObj) : J sc (H ++ G) T := by
 have := hV.stab (m := []) h id (H' := H ++ G) (fun k fz c _ _ h => app_get_of h G) (fun k es _ _ h => app_get_of h G)
 simpa using this
theorem MvP.app {bi mi dm base : Nat} {P : Nat → Prop} {J : Bool → List AObj → List Tm → Prop} {f : FuncId} {caps : List AV} (hV : VOk fr var ve bi mi dm base P J f caps) {sc : Bool} {T : List Tm} {H : List AObj} {V : List Nat} {es : List (AV × AV)} (h : MvP fr var ve bi mi dm P J sc T H V es) (G : List AObj) : MvP fr var ve bi mi dm P J sc T (H ++ G) V es := ⟨h.bs.app G, h.gt, app_get_of h.map G, h.dm, hV.japp h.j G⟩
end
end Go.Proofs.Eng
