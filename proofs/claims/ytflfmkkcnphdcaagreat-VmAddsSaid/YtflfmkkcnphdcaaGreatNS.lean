/- Two machines; the law of runs in parts. No conditions beyond those in the theorems. -/
import Derived.Test.YtflfmkkcnphdcaaGreatRC
import Derived.Test.YtflfmkkcnphdcaaGreatN8
import Derived.Test.YtflfmkkcnphdcaaGreatPf57
set_option linter.all false
set_option linter.deprecated false
set_option linter.unnecessarySimpa false
set_option linter.unusedVariables false
set_option linter.unusedSimpArgs false
set_option linter.defProp false
namespace Go.Proofs.Eng
open Go Go.Proofs
set_option maxRecDepth 100000
set_option maxHeartbeats 16000000
section
variable {F : Fz} {H : List fp} {V : List Nat} {m : Nat} {sa fa : AV} {c : Cd} {s : Ms}
theorem S6 (hM : MR F H m sa fa c s) : Rw 22 [.ptr m 0] ⟨H, V⟩ λ v s1 => s1 = ⟨H, V⟩ /\ v = .int (s.ia.length : Nat) := by
 obtain ⟨Bl, tb, t2, t3, ea, b1, b2, b3⟩ := hM.uc
 simp only [mcs] at b1
 refine ly pf22_is (dh rfl) ?_
 rcases hM.fr with ⟨rfl, hn⟩ | ⟨b, cs, rfl, h1, h2, h3⟩
 ·simp only [pf22, ↓fj, wall, simprocAttr, wH, gq, fq, b1]
  rw [hn]; rfl
 ·simp only [pf22, ↓fj, wall, simprocAttr, wH, gq, fq, b1]
theorem Kk {p : Pr} {pa : AV} (hp : p.Is pa) (hf : p.Wa = true) (hc : p.check = 0) (H : List fp) (V : List Nat) :
  Rw 19 [pa] ⟨H, V⟩ λ v s1 => ∃ m, v = .ptr m 0 /\ H.length <= m /\ Ap H V s1.H s1.T /\ MR (λ _ => none) s1.H m (.sl [] .nil) (.sl [] .nil) (lf p) Ms.start := by
 obtain ⟨hP, b1, b2, b3, b4, b5, b6⟩ := Pv hf hc
 obtain ⟨Z, hC⟩ := Kj b3
 have jy : wi = 1073741824 := rfl
 obtain ⟨_, hv, cc⟩ := (Lg hp (B := 12800) λ _ => ⟨hP, by omega, by omega⟩).call rfl (by simp [ga, gu, Wq hp])
 rcases hv with ⟨h, _⟩ | ⟨_, a, rfl, ha⟩
 ·exact absurd hc h
 obtain ⟨gas, tg, cp, rfl, h1, h2, h3, h4, h5, h6, h7, h8, h9, h10⟩ := id hp
 obtain ⟨Bs, t1, t2, t3, rfl, g1, g2, g3, g4, g5, g6, g7⟩ := id ha
 refine ly pf19_is (dh rfl) ?_
 obtain ⟨_, ⟨H1, V1⟩, ⟨_, _, hs, hAp, hw⟩, cn⟩ := (Y8 ha b4 hC.names (by omega) (by omega) (by omega) (by omega) (H ++ [.cells false (.sl gas tg :: cp), .cells false [.sl Bs t1, .sl (nmA (lf p).gl) t2, .sl (ints (lf p).st) t3]]) V).call rfl
 cases hs
 rcases hw with ⟨h, _⟩ | ⟨_, m, Bl, tb, u2, u3, hm, rfl, hb, hx⟩
 ·exact absurd b3 h
 simp only [pf19, ↓fj, wall, simprocAttr, wH, gq, fq, h5, h6, h7, cc, cn]
 have hx6 : cp.take 5 = cp := h6
 refine ⟨m, rfl, by simp at hm; omega, (Ap.app H V _).trans hAp, ⟨⟨Bl, tb, u2, u3, _, hb, hx, by rw [Ms.start, ER]⟩, .inl ⟨rfl, rfl⟩, .inl ⟨rfl, rfl⟩, λ _ _ => rfl, λ _ h => (by cases h), λ _ h => (by cases h)⟩⟩
end
end Go.Proofs.Eng
namespace Go.Proofs.Eng
open Go Go.Proofs
set_option maxRecDepth 100000
set_option maxHeartbeats 16000000
mutual
def Vl.cnt : Vl -> Int
 | .ctor _ _ p => Vl.nn 1 p
 | .box => -1
 | .clo _ _ => -1
 | .pair _ _ => -1
def Vl.nn : Int -> List Vl -> Int
 | n, [] => n
 | n, v :: p => if 0 < n then Vl.nn (if v.cnt < 0 then -1 else if 4097 < n + v.cnt then 4097 else n + v.cnt) p else n
end
theorem B8 {n : Int} (h : ¬ 0 < n) : ∀ p : List Vl, Vl.nn n p = n
 | [] => by rw [Vl.nn]
 | v :: p => by rw [Vl.nn, if_neg h]
mutual
theorem Nu : ∀ v : Vl, -1 <= v.cnt /\ v.cnt <= 4097
 | .ctor _ _ p => by rw [Vl.cnt]; exact Q4 p (by decide) (by decide)
 | .box => by rw [Vl.cnt]; decide
 | .clo _ _ => by rw [Vl.cnt]; decide
 | .pair _ _ => by rw [Vl.cnt]; decide
theorem Q4 : ∀ (p : List Vl) {n : Int}, -1 <= n -> n <= 4097 -> -1 <= Vl.nn n p /\ Vl.nn n p <= 4097
 | [], n, h1, h2 => by rw [Vl.nn]; exact ⟨h1, h2⟩
 | v :: p, n, h1, h2 => by
  rw [Vl.nn]
  have := Nu v
  split
  ·exact Q4 p (by split <;> (try split) <;> omega) (by split <;> (try split) <;> omega)
  ·exact ⟨h1, h2⟩
end
theorem PA.uniq {F : Fz} {l m : List AV} {pa : AV} (h : PA F l pa) (k : PA F m pa) : l = m := by
 rcases h with ⟨t, rfl⟩ | ⟨b, rfl, h⟩
 ·rcases k with ⟨t', k⟩ | ⟨b, k, _⟩
  ·cases k; rfl
  ·cases k
 ·rcases k with ⟨t', k⟩ | ⟨b', k, k2⟩
  ·cases k
  ·injection k with e1
   subst e1
   rw [h] at k2; cases k2; rfl
mutual
theorem VR.uniq {F : Fz} : ∀ {v w : Vl} {a : AV}, VR F v a -> VR F w a -> v = w
 | .box, w, a, h, k => by
  rw [VR] at h
  obtain ⟨b, rfl, h⟩ := h
  cases w with
  | box => rfl
  | clo n e => rw [VR] at k; obtain ⟨_, _, e, k, _⟩ := k; cases e; rw [h] at k; cases k
  | ctor n m q => rw [VR] at k; obtain ⟨_, _, _, e, k, _⟩ := k; cases e; rw [h] at k; cases k
  | pair x y => rw [VR] at k; obtain ⟨_, _, _, _, e, k, _⟩ := k; cases e; rw [h] at k; cases k
 | .clo n e, w, a, h, k => by
  rw [VR] at h
  obtain ⟨b, ea, rfl, h, h2⟩ := h
  cases w with
  | box => rw [VR] at k; obtain ⟨_, e, k⟩ := k; cases e; rw [h] at k; cases k
  | clo n' e' =>
   rw [VR] at k
   obtain ⟨_, ea', e, k, k2⟩ := k
   cases e; rw [h] at k; cases k
   rw [ER.uniq h2 k2]
  | ctor n m q => rw [VR] at k; obtain ⟨_, _, _, e, k, _⟩ := k; cases e; rw [h] at k; cases k
  | pair x y => rw [VR] at k; obtain ⟨_, _, _, _, e, k, _⟩ := k; cases e; rw [h] at k; cases k
 | .ctor n nm p, w, a, h, k => by
  rw [VR] at h
  obtain ⟨b, pa, l, rfl, h, h2, h3⟩ := h
  cases w with
  | box => rw [VR] at k; obtain ⟨_, e, k⟩ := k; cases e; rw [h] at k; cases k
  | clo n' e' => rw [VR] at k; obtain ⟨_, ea', e, k, k2⟩ := k; cases e; rw [h] at k; cases k
  | ctor n' m q =>
   rw [VR] at k
   obtain ⟨_, _, _, e, k, k2, k3⟩ := k
   cases e; rw [h] at k; cases k
   have := h2.uniq k2
   subst this
   rw [VRs.uniq h3 k3]
  | pair x y => rw [VR] at k; obtain ⟨_, _, _, _, e, k, _⟩ := k; cases e; rw [h] at k; cases k
 | .pair x y, w, a, h, k => by
  rw [VR] at h
  obtain ⟨b, ax, ay, t, rfl, h, h2, h3⟩ := h
  cases w with
  | box => rw [VR] at k; obtain ⟨_, e, k⟩ := k; cases e; rw [h] at k; cases k
  | clo n' e' => rw [VR] at k; obtain ⟨_, ea', e, k, k2⟩ := k; cases e; rw [h] at k; cases k
  | ctor n m q => rw [VR] at k; obtain ⟨_, _, _, e, k, _⟩ := k; cases e; rw [h] at k; cases k
  | pair x' y' =>
   rw [VR] at k
   obtain ⟨_, _, _, _, e, k, k2, k3⟩ := k
   cases e; rw [h] at k; cases k
   rw [VR.uniq h2 k2, VR.uniq h3 k3]
theorem ER.uniq {F : Fz} : ∀ {e f : List Vl} {a : AV}, ER F e a -> ER F f a -> e = f
 | [], f, a, h, k => by
  rw [ER] at h; subst h
  cases f with
  | nil => rfl
  | cons v f => rw [ER] at k; obtain ⟨_, _, _, e, _⟩ := k; cases e
 | v :: e, f, a, h, k => by
  rw [ER] at h
  obtain ⟨b, av, ea, rfl, h, h2, h3⟩ := h
  cases f with
  | nil => rw [ER] at k; cases k
  | cons w f =>
   rw [ER] at k
   obtain ⟨_, av', ea', e1, k, k2, k3⟩ := k
   cases e1; rw [h] at k; cases k
   rw [VR.uniq h2 k2, ER.uniq h3 k3]
theorem VRs.uniq {F : Fz} : ∀ {p q : List Vl} {l : List AV}, VRs F p l -> VRs F q l -> p = q
 | [], q, l, h, k => by
  rw [VRs] at h; subst h
  cases q with
  | nil => rfl
  | cons v q => rw [VRs] at k; obtain ⟨_, _, e, _⟩ := k; cases e
 | v :: p, q, l, h, k => by
  rw [VRs] at h
  obtain ⟨a, l', rfl, h1, h2⟩ := h
  cases q with
  | nil => rw [VRs] at k; cases k
  | cons w q =>
   rw [VRs] at k
   obtain ⟨a', l'', e, k1, k2⟩ := k
   cases e
   rw [VR.uniq h1 k1, VRs.uniq h2 k2]
end
def D0 (F : Fz) (es : List (AV × AV)) : Prop := ∀ e ∈ es, ∃ (k : Nat) (v : Vl), e = (.ptr k 0, .int v.cnt) /\ VR F v (.ptr k 0)
theorem Lo {k j : Nat} : mv .pt (.ptr k 0) (.ptr j 0) = some (k == j) := by simp [mv]
theorem Om {F : Fz} {v : Vl} {k : Nat} (hv : VR F v (.ptr k 0)) : ∀ {es : List (AV × AV)}, D0 F es -> mj .pt (.ptr k 0) es = some none \/ mj .pt (.ptr k 0) es = some (some (.int v.cnt))
 | [], _ => .inl rfl
 | e :: es, h => by
  obtain ⟨j, w, rfl, hw⟩ := h e (by simp)
  have ih := Om hv (es := es) λ x hx => h x (by simp [hx])
  rw [mj, Lo]
  by_cases hj : k = j
  ·subst hj
   rw [VR.uniq hv hw]
   simp
  ·have : (k == j) = false := by simpa using hj
   rw [this]; exact ih
theorem L9 {F : Fz} {v : Vl} {k : Nat} (hv : VR F v (.ptr k 0)) : ∀ {es : List (AV × AV)}, D0 F es -> ∃ es', upA .pt (.ptr k 0) (.int v.cnt) es = some es' /\ D0 F es'
 | [], _ => ⟨[(.ptr k 0, .int v.cnt)], rfl, λ e he => by rw [List.mem_singleton.1 he]; exact ⟨k, v, rfl, hv⟩⟩
 | e :: es, h => by
  obtain ⟨j, w, rfl, hw⟩ := h e (by simp)
  obtain ⟨es', e1, e2⟩ := L9 hv (es := es) λ x hx => h x (by simp [hx])
  rw [upA, Lo]
  by_cases hj : k = j
  ·subst hj
   rw [beq_self_eq_true]
   refine ⟨(.ptr k 0, .int v.cnt) :: es, rfl, λ x hx => ?_⟩
   rcases List.mem_cons.1 hx with rfl | hx
   ·exact ⟨k, v, rfl, hv⟩
   ·exact h x (by simp [hx])
  ·have : (k == j) = false := by simpa using hj
   rw [this]
   simp only [e1, fg]
   refine ⟨_, rfl, λ x hx => ?_⟩
   rcases List.mem_cons.1 hx with rfl | hx
   ·exact ⟨j, w, rfl, hw⟩
   ·exact e2 x hx
theorem Q5 {F : Fz} {H : List fp} (hF : Fro F H) {v : Vl} {k : Nat} (hv : VR F v (.ptr k 0)) {es : List (AV × AV)} (h : D0 F es) : s6 H .pt (.ptr k 0) es = true := by
 have one : ∀ {w : Vl} {j : Nat}, VR F w (.ptr j 0) -> qg H (.ptr j 0) = true := λ {w j} hw => by
  have := VR.cells hF hw
  cases w
  ·simp only at this; simp [qg, this]
  ·obtain ⟨_, this, _⟩ := this; simp [qg, this]
  ·obtain ⟨_, _, this, _⟩ := this; simp [qg, this]
  ·obtain ⟨_, _, _, this, _⟩ := this; simp [qg, this]
 rw [s6, dx]
 refine ⟨one hv, aw.2 λ e he => ?_⟩
 obtain ⟨j, w, rfl, hw⟩ := h e he
 exact one hw
def Vl.parts : Vl -> List Vl
 | .ctor _ _ p => p
 | _ => []
theorem Vl.ind {P : Vl -> Prop} (h : ∀ v, (∀ w ∈ v.parts, P w) -> P v) (v : Vl) : P v := by
 have key : ∀ n v, SizeOf.sizeOf v <= n -> P v := by
  intro n
  induction n with
  | zero => intro v hv; cases v <;> simp at hv
  | succ n ih =>
   intro v hv
   refine h v λ w hw => ih w ?_
   cases v with
   | ctor k nm p =>
    have := List.sizeOf_lt_of_mem (show w ∈ p from hw)
    simp at hv
    omega
   | _ => cases hw
 exact key _ v (di _)
theorem Fro.a17 {F : Fz} {H : List fp} (h : Fro F H) {mi : Nat} {es es' : List (AV × AV)} (hm : H[mi]? = some (.map es)) : Fro F (H.set mi (.map es')) := λ k c hk => by
 have h1 := h k c hk
 rw [gsn λ e => by subst e; rw [hm] at h1; cases h1]; exact h1
theorem Ff {H : List fp} {i : Nat} {x : fp} (h : H[i]? = some x) : H.set i x = H := by
 refine List.ext_getElem? λ k => ?_
 rw [b9]
 split
 ·rename_i e
  subst e
  rw [if_pos (fy h), h]
 ·rfl
theorem Rg {c : Cd} {Z : List Int} {F : Fz} (v : Vl) : ∀ {H : List fp} {V : List Nat} {mi k : Nat} {es : List (AV × AV)}, VOK c Z v -> Fro F H -> VR F v (.ptr k 0) -> H[mi]? = some (.map es) -> D0 F es ->
  Rw 71 [.ptr k 0, .mp mi] ⟨H, V⟩ λ r s1 => r = .int v.cnt /\ ∃ es', s1 = ⟨H.set mi (.map es'), V⟩ /\ D0 F es' := by
 induction v using Vl.ind with
 | h v ih =>
 intro H V mi k es hok hF hv hm hS
 have hlv := Q5 hF hv hS
 have hml := fy hm
 have hc := VR.cells hF hv
 refine ly pf71_is (dh rfl) ?_
 rcases Om hv hS with hk | hk
 ·cases v with
  | ctor kk nm p =>
   obtain ⟨pa, l, hc, hpa, hps⟩ := hc
   rw [VOK] at hok
   obtain ⟨_, hok1, hok2⟩ := hok
   have hkm : k ≠ mi := λ e => by subst e; rw [hm] at hc; cases hc
   have gk := λ (y : fp) => (gsn (H := H) (x := y) hkm).trans hc
   have hone := hps.a1z
   have hlen := hps.len
   have hlb : jh = 9223372036854775807 := rfl
   have hF' := λ es' => hF.a17 (es' := es') hm
   simp only [Vl.cnt] at ih ⊢
   have fin : ∀ {es1 : List (AV × AV)} {acc : Int}, acc = Vl.nn 1 p -> D0 F es1 -> ∃ es2, upA .pt (.ptr k 0) (.int acc) es1 = some es2 /\ D0 F es2 := λ {es1 acc} e h => by
    have := L9 hv h
    rw [Vl.cnt] at this
    rw [e]; exact this
   have hl1 : ∀ es1, D0 F es1 -> s6 (H.set mi (.map es1)) .pt (.ptr k 0) es1 = true := λ es1 h => Q5 (hF' es1) hv h
   have hg : ∀ x : fp, (H.set mi x)[mi]? = some x := λ x => gse hml
   rcases id hpa with ⟨t, rfl⟩ | ⟨b, rfl, hb⟩
   ·simp only [pf71, ↓fj, wall, simprocAttr, wH, gq, fq, hm, hlv, hk, hc]
    refine j6 (λ j => l.length - j) (λ j E H' V' => ∃ acc es1, j <= l.length /\ E 0 = .ptr k 0 /\ E 1 = .mp mi /\ E 7 = .int acc /\ E 8 = .int (j : Nat) /\ H' = H.set mi (.map es1) /\ V' = V /\ D0 F es1 /\ Vl.nn acc (p.drop j) = Vl.nn 1 p /\ -1 <= acc /\ acc <= 4097) ?_ 0
     ⟨1, es, dk _, rfl, rfl, rfl, rfl, (Ff hm).symm, rfl, hS, rfl, by decide, by decide⟩
    rintro j E _ V1 ⟨acc, es1, hj, e0, e1, e7, e8, rfl, rfl, hS1, hacc, ha1, ha2⟩
    have ends : acc = Vl.nn 1 p -> ∃ es2, upA .pt (.ptr k 0) (.int acc) es1 = some es2 /\ D0 F es2 := λ hx => fin hx hS1
    cases hd : decide (acc > 0)
    ·have hx : acc = Vl.nn 1 p := by rw [<- hacc, B8 (by simpa using hd)]
     obtain ⟨es2, hu, hS2⟩ := ends hx
     simp only [↓fj, wall, simprocAttr, wH, gq, fq, e0, e1, e7, e8, hd, hg, hl1 es1 hS1, hu, List.set_set]
     exact ⟨by rw [hx], es2, rfl, hS2⟩
    rcases dj j l.length with hlt | hge
    ·have hdec : decide ((j : Int) < l.length) = true := by simpa using hlt
     have hjp : j < p.length := by omega
     obtain ⟨a, g1, g2⟩ := hps.at (i := j) (aa hjp)
     obtain ⟨kc, rfl⟩ := g2.ptr
     obtain ⟨_, _, ⟨rfl, es2, rfl, hS2⟩, cr⟩ := (ih p[j] (V := V1) (List.getElem_mem hjp) (m6.1 hok2 _ (List.getElem_mem hjp)) (hF' es1) g2 (hg _) hS1).call rfl
     rw [bx hjp, Vl.nn, if_pos (by simpa using hd)] at hacc
     obtain ⟨c1, c2⟩ := Nu p[j]
     cases hn : decide (p[j].cnt < 0)
     ·have hw : IntKind.i64.wrap (acc + p[j].cnt) = acc + p[j].cnt := je (by unfold m7; omega)
      have hacc' : acc > 0 := by simpa using hd
      have hn' : ¬ p[j].cnt < 0 := by simpa using hn
      rw [if_neg hn'] at hacc
      simp only [↓fj, wall, simprocAttr, wH, e0, e1, e7, e8, hd, hdec, gk, g1, hone, cr, hn, hw, List.set_set]
      exact jm ⟨j + 1, by omega, _, es2, by omega, e0, e1, rfl, iw (by omega), rfl, rfl, hS2, hacc, by split <;> omega, by split <;> omega⟩
     ·rw [if_pos (by simpa using hn)] at hacc
      simp only [↓fj, wall, simprocAttr, wH, e0, e1, e7, e8, hd, hdec, gk, g1, hone, cr, hn, List.set_set]
      exact jm ⟨j + 1, by omega, _, es2, by omega, e0, e1, rfl, iw (by omega), rfl, rfl, hS2, hacc, by decide, by decide⟩
    ·have hdec : decide ((j : Int) < l.length) = false := by simpa using hge
     have hx : acc = Vl.nn 1 p := by rw [<- hacc, bt (by omega), Vl.nn]
     obtain ⟨es2, hu, hS2⟩ := ends hx
     simp only [↓fj, wall, simprocAttr, wH, gq, fq, e0, e1, e7, e8, hd, hdec, gk, hg, hl1 es1 hS1, hu, List.set_set]
     exact ⟨by rw [hx], es2, rfl, hS2⟩
   ·have hBb : ∀ es1, (H.set mi (.map es1))[b]? = some (.cells false l) := λ es1 => hF' es1 b l hb
    simp only [pf71, ↓fj, wall, simprocAttr, wH, gq, fq, hm, hlv, hk, hc]
    refine j6 (λ j => l.length - j) (λ j E H' V' => ∃ acc es1, j <= l.length /\ E 0 = .ptr k 0 /\ E 1 = .mp mi /\ E 7 = .int acc /\ E 8 = .int (j : Nat) /\ H' = H.set mi (.map es1) /\ V' = V /\ D0 F es1 /\ Vl.nn acc (p.drop j) = Vl.nn 1 p /\ -1 <= acc /\ acc <= 4097) ?_ 0
     ⟨1, es, dk _, rfl, rfl, rfl, rfl, (Ff hm).symm, rfl, hS, rfl, by decide, by decide⟩
    rintro j E _ V1 ⟨acc, es1, hj, e0, e1, e7, e8, rfl, rfl, hS1, hacc, ha1, ha2⟩
    have ends : acc = Vl.nn 1 p -> ∃ es2, upA .pt (.ptr k 0) (.int acc) es1 = some es2 /\ D0 F es2 := λ hx => fin hx hS1
    cases hd : decide (acc > 0)
    ·have hx : acc = Vl.nn 1 p := by rw [<- hacc, B8 (by simpa using hd)]
     obtain ⟨es2, hu, hS2⟩ := ends hx
     simp only [↓fj, wall, simprocAttr, wH, gq, fq, e0, e1, e7, e8, hd, hg, hl1 es1 hS1, hu, List.set_set]
     exact ⟨by rw [hx], es2, rfl, hS2⟩
    rcases dj j l.length with hlt | hge
    ·have hdec : decide ((j : Int) < l.length) = true := by simpa using hlt
     have hjp : j < p.length := by omega
     obtain ⟨a, g1, g2⟩ := hps.at (i := j) (aa hjp)
     obtain ⟨kc, rfl⟩ := g2.ptr
     have hlt1 : ((j : Nat) : Int) < (l.length : Nat) := by omega
     have hhd : (l.drop (j * 1)).head? = some (.ptr kc 0) := by rw [Nat.mul_one, List.head?_drop]; exact g1
     have hHb := hBb es1
     obtain ⟨_, _, ⟨rfl, es2, rfl, hS2⟩, cr⟩ := (ih p[j] (V := V1) (List.getElem_mem hjp) (m6.1 hok2 _ (List.getElem_mem hjp)) (hF' es1) g2 (hg _) hS1).call rfl
     rw [bx hjp, Vl.nn, if_pos (by simpa using hd)] at hacc
     obtain ⟨c1, c2⟩ := Nu p[j]
     cases hn : decide (p[j].cnt < 0)
     ·have hw : IntKind.i64.wrap (acc + p[j].cnt) = acc + p[j].cnt := je (by unfold m7; omega)
      have hacc' : acc > 0 := by simpa using hd
      have hn' : ¬ p[j].cnt < 0 := by simpa using hn
      rw [if_neg hn'] at hacc
      simp only [↓fj, wall, simprocAttr, wH, e0, e1, e7, e8, hd, hdec, gk, g1, hHb, hlt1, hhd, cr, hn, hw, List.set_set]
      exact jm ⟨j + 1, by omega, _, es2, by omega, e0, e1, rfl, iw (by omega), rfl, rfl, hS2, hacc, by split <;> omega, by split <;> omega⟩
     ·rw [if_pos (by simpa using hn)] at hacc
      simp only [↓fj, wall, simprocAttr, wH, e0, e1, e7, e8, hd, hdec, gk, g1, hHb, hlt1, hhd, cr, hn, List.set_set]
      exact jm ⟨j + 1, by omega, _, es2, by omega, e0, e1, rfl, iw (by omega), rfl, rfl, hS2, hacc, by decide, by decide⟩
    ·have hdec : decide ((j : Int) < l.length) = false := by simpa using hge
     have hx : acc = Vl.nn 1 p := by rw [<- hacc, bt (by omega), Vl.nn]
     obtain ⟨es2, hu, hS2⟩ := ends hx
     simp only [↓fj, wall, simprocAttr, wH, gq, fq, e0, e1, e7, e8, hd, hdec, gk, hg, hl1 es1 hS1, hu, List.set_set]
     exact ⟨by rw [hx], es2, rfl, hS2⟩
  | box =>
   obtain ⟨es', hu, hS'⟩ := L9 hv hS
   simp only [Vl.cnt] at hu
   simp only [pf71, ↓fj, wall, simprocAttr, wH, gq, fq, hm, hlv, hk, hc]
   refine j6 (λ _ => 0) (λ (_ : Nat) E H' V' => E 0 = .ptr k 0 /\ E 1 = .mp mi /\ E 7 = .int (-1) /\ H' = H /\ V' = V) ?_ 0 ⟨rfl, rfl, rfl, rfl, rfl⟩
   rintro _ E _ _ ⟨e0, e1, e7, rfl, rfl⟩
   have hd : decide ((-1 : Int) > 0) = false := rfl
   simp only [↓fj, wall, simprocAttr, wH, gq, fq, e0, e1, e7, hd, hm, hlv, hu]
   exact ⟨by rw [Vl.cnt], es', rfl, hS'⟩
  | clo n e =>
   obtain ⟨ea, hc, _⟩ := hc
   obtain ⟨es', hu, hS'⟩ := L9 hv hS
   simp only [Vl.cnt] at hu
   simp only [pf71, ↓fj, wall, simprocAttr, wH, gq, fq, hm, hlv, hk, hc]
   refine j6 (λ _ => 0) (λ (_ : Nat) E H' V' => E 0 = .ptr k 0 /\ E 1 = .mp mi /\ E 7 = .int (-1) /\ H' = H /\ V' = V) ?_ 0 ⟨rfl, rfl, rfl, rfl, rfl⟩
   rintro _ E _ _ ⟨e0, e1, e7, rfl, rfl⟩
   have hd : decide ((-1 : Int) > 0) = false := rfl
   simp only [↓fj, wall, simprocAttr, wH, gq, fq, e0, e1, e7, hd, hm, hlv, hu]
   exact ⟨by rw [Vl.cnt], es', rfl, hS'⟩
  | pair x y =>
   obtain ⟨ax, ay, t, hc, _⟩ := hc
   obtain ⟨es', hu, hS'⟩ := L9 hv hS
   simp only [Vl.cnt] at hu
   simp only [pf71, ↓fj, wall, simprocAttr, wH, gq, fq, hm, hlv, hk, hc]
   refine j6 (λ _ => 0) (λ (_ : Nat) E H' V' => E 0 = .ptr k 0 /\ E 1 = .mp mi /\ E 7 = .int (-1) /\ H' = H /\ V' = V) ?_ 0 ⟨rfl, rfl, rfl, rfl, rfl⟩
   rintro _ E _ _ ⟨e0, e1, e7, rfl, rfl⟩
   have hd : decide ((-1 : Int) > 0) = false := rfl
   simp only [↓fj, wall, simprocAttr, wH, gq, fq, e0, e1, e7, hd, hm, hlv, hu]
   exact ⟨by rw [Vl.cnt], es', rfl, hS'⟩
 ·simp only [pf71, ↓fj, wall, simprocAttr, wH, gq, fq, hm, hlv, hk]
  exact ⟨es, by rw [Ff hm], hS⟩
end Go.Proofs.Eng
namespace Go.Proofs.Eng
open Go Go.Proofs
set_option maxRecDepth 100000
set_option maxHeartbeats 16000000
inductive Dt where
 | mk (c : ByteArray) (l : List Dt)
mutual
def Dt.R : Dt -> AV -> Prop
 | .mk c l, a => ∃ t das, a = .agg [.str c, .sl das t] /\ Dt.RL l das /\ das.length <= 1000000
def Dt.RL : List Dt -> List AV -> Prop
 | [], l => l = []
 | d :: ds, l => ∃ a l', l = a :: l' /\ d.R a /\ Dt.RL ds l'
end
theorem RL.len : ∀ {p : List Dt} {l : List AV}, Dt.RL p l -> l.length = p.length
 | [], l, k => by rw [Dt.RL] at k; rw [k]; rfl
 | v :: p, l, k => by
  rw [Dt.RL] at k
  obtain ⟨a, l', rfl, _, h⟩ := k
  rw [ak, ak, RL.len h]
theorem RL.snoc : ∀ {p : List Dt} {l : List AV} {d : Dt} {a : AV}, Dt.RL p l -> d.R a -> Dt.RL (p ++ [d]) (l ++ [a])
 | [], l, d, a, h, k => by rw [Dt.RL] at h; subst h; rw [bo, Dt.RL]; exact ⟨a, [], rfl, k, by rw [Dt.RL]⟩
 | x :: p, l, d, a, h, k => by
  rw [Dt.RL] at h
  obtain ⟨b, l', rfl, h1, h2⟩ := h
  rw [bn, bn, Dt.RL]
  exact ⟨b, l' ++ [a], rfl, h1, RL.snoc h2 k⟩
theorem RL.at : ∀ {p : List Dt} {l : List AV} {i : Nat} {d : Dt}, Dt.RL p l -> p[i]? = some d -> ∃ a, l[i]? = some a /\ d.R a
 | [], _, _, _, _, h => by simp at h
 | v :: p, l, 0, _, h, e => by
  rw [Dt.RL] at h
  obtain ⟨a, l', rfl, h1, _⟩ := h
  simp at e; subst e; exact ⟨a, rfl, h1⟩
 | v :: p, l, i + 1, _, h, e => by
  rw [Dt.RL] at h
  obtain ⟨a, l', rfl, _, h2⟩ := h
  obtain ⟨b, h3, h4⟩ := RL.at h2 (by simpa using e)
  exact ⟨b, by simpa using h3, h4⟩
theorem Dt.R.two {d : Dt} {a : AV} (h : d.R a) : ∃ c das t, a = .agg [.str c, .sl das t] /\ ∃ l, d = .mk c l /\ Dt.RL l das /\ das.length <= 1000000 := by
 cases d with
 | mk c l => rw [Dt.R] at h; obtain ⟨t, das, rfl, h1, h2⟩ := h; exact ⟨c, das, t, rfl, l, rfl, h1, h2⟩
theorem Dt.ind {P : Dt -> Prop} (h : ∀ c l, (∀ x ∈ l, P x) -> P (.mk c l)) (e : Dt) : P e := by
 have key : ∀ n e, SizeOf.sizeOf e <= n -> P e := by
  intro n
  induction n with
  | zero => intro e he; cases e; simp at he
  | succ n ih =>
   intro e he
   cases e with
   | mk c l =>
    refine h c l λ x hx => ih x ?_
    have := List.sizeOf_lt_of_mem hx
    simp at he
    omega
 exact key _ e (di _)
theorem RL.Vf : ∀ {p : List Dt} {l : List AV}, Dt.RL p l -> (l.all λ x => x.cells.length == 2) = true /\ (l.all λ x => x.cells.length == 2 && x.cells.all gv) = true
 | [], l, h => by rw [Dt.RL] at h; subst h; exact ⟨rfl, rfl⟩
 | d :: p, l, h => by
  rw [Dt.RL] at h
  obtain ⟨a, l', rfl, h1, h2⟩ := h
  obtain ⟨c, das, t, rfl, _⟩ := h1.two
  obtain ⟨h3, h4⟩ := RL.Vf h2
  rw [db, db, h3, h4]; exact ⟨rfl, rfl⟩
theorem Y9 (d : Dt) : ∀ {a : AV}, d.R a -> lq a a = true := by
 induction d using Dt.ind with
 | h c l ih =>
  intro a h
  rw [Dt.R] at h
  obtain ⟨t, das, rfl, h1, _⟩ := h
  have key : ∀ (l' : List Dt) (al : List AV), (∀ x ∈ l', x ∈ l) -> Dt.RL l' al -> jl al al = true := by
   intro l'
   induction l' with
   | nil => intro al _ h; rw [Dt.RL] at h; subst h; rw [jl]
   | cons x l' ih' =>
    intro al hx h
    rw [Dt.RL] at h
    obtain ⟨a, al', rfl, h3, h4⟩ := h
    rw [jl, ih x (hx x (by simp)) h3, ih' al' (λ y hy => hx y (by simp [hy])) h4]; rfl
  rw [lq, jl, jl, jl, Bj, eqT _ _ (key l das (λ _ h => h) h1)]; rfl
mutual
def Vl.tree : Vl -> Dt
 | .ctor _ nm p => .mk nm (Vl.trees p)
 | .box => .mk ⟨#[]⟩ []
 | .clo _ _ => .mk ⟨#[]⟩ []
 | .pair _ _ => .mk ⟨#[]⟩ []
def Vl.trees : List Vl -> List Dt
 | [] => []
 | v :: p => v.tree :: Vl.trees p
end
theorem zc : ∀ p : List Vl, (Vl.trees p).length = p.length
 | [] => rfl
 | x :: p => by rw [Vl.trees, ak, ak, zc p]
theorem B4 : ∀ (p : List Vl) {n : Int}, 0 < n -> n <= 4097 -> Vl.nn n p = -1 \/ n <= Vl.nn n p
 | [], n, _, _ => by rw [Vl.nn]; exact .inr (Int.le_refl _)
 | v :: p, n, h, h2 => by
  rw [Vl.nn, if_pos h]
  split
  ·exact .inl (B8 (by decide) _)
  ·split
   ·rcases B4 p (n := 4097) (by decide) (by decide) with h1 | h1
    ·exact .inl h1
    ·exact .inr (by omega)
   ·rcases B4 p (n := n + v.cnt) (by omega) (by omega) with h1 | h1
    ·exact .inl h1
    ·exact .inr (by omega)
theorem a22 (v : Vl) : v.cnt = -1 \/ 1 <= v.cnt := by
 cases v with
 | ctor k nm p =>
  rw [Vl.cnt]
  exact B4 p (by decide) (by decide)
 | _ => left; rw [Vl.cnt]
theorem Lc : ∀ (p : List Vl) {n : Int}, 0 < n -> n <= 4096 -> 0 <= Vl.nn n p -> Vl.nn n p <= 4096 -> (∀ w ∈ p, 1 <= w.cnt /\ w.cnt <= 4096) /\ n + (p.length : Nat) <= 4096
 | [], n, _, h, _, _ => ⟨λ w hw => (by cases hw), by simpa using h⟩
 | v :: p, n, h1, h2, h3, h4 => by
  rw [Vl.nn, if_pos h1] at h3 h4
  rcases a22 v with hv | hv
  ·rw [if_pos (by omega), B8 (by decide)] at h3; omega
  ·rw [if_neg (by omega)] at h3 h4
   split at h3
   ·rename_i hc
    rw [if_pos hc] at h4
    rcases B4 p (n := 4097) (by decide) (by decide) with h5 | h5
    ·omega
    ·omega
   ·rename_i hc
    rw [if_neg hc] at h4
    have hle : n + v.cnt <= 4096 := by
     rcases B4 p (n := n + v.cnt) (by omega) (by omega) with h5 | h5 <;> omega
    obtain ⟨k1, k2⟩ := Lc p (n := n + v.cnt) (by omega) hle h3 h4
    refine ⟨λ w hw => ?_, by rw [ak]; omega⟩
    rcases List.mem_cons.1 hw with rfl | hw
    ·exact ⟨hv, by omega⟩
    ·exact k1 w hw
theorem App.ap {V V' : List Nat} {H H' : List fp} (h : Ap H V H' V') {l : List AV} {t : Tl} (k : App V l t) : App V' l t := by
 rcases k with k | ⟨h1, id, ver, e, h2⟩
 ·exact .inl k
 ·exact .inr ⟨h1, id, ver, e, h.v id ver h2⟩
theorem Fro.ap {F : Fz} {V V' : List Nat} {H H' : List fp} (h : Ap H V H' V') (k : Fro F H) : Fro F H' := λ i c e => h.h i _ (k i c e)
theorem Eg : ∀ {l : List Dt} {al : List AV}, Dt.RL l al -> jl al al = true
 | [], al, h => by rw [Dt.RL] at h; subst h; rw [jl]
 | x :: l, al, h => by
  rw [Dt.RL] at h
  obtain ⟨a, al', rfl, h3, h4⟩ := h
  rw [jl, Y9 x h3, Eg h4]; rfl
structure TrI (H : List fp) (V : List Nat) (H' : List fp) (V' : List Nat) (p : List Vl) (nm : ByteArray) (j : Nat) (al : List AV) (tb : Tl) : Prop where
 rl : Dt.RL (Vl.trees (p.take j)) al
 b : H'[H.length + 1]? = some (.cells false [.str nm, .sl al tb])
 ap : Ap H V H' V'
 app : App V' al tb
 own : ∀ i ver, tb = .tl i ver -> V.length <= i
 a : H'[H.length]? = some (.cells false [.str ⟨#[]⟩, .sl [] .nil])
 len : V.length <= V'.length
theorem Mz (p : List Vl) (v : Vl) : Vl.trees (p ++ [v]) = Vl.trees p ++ [v.tree] := by
 induction p with
 | nil => rfl
 | cons x p ih => rw [bn, Vl.trees, ih, Vl.trees, bn]
theorem K0 {H H' H2 : List fp} {V V' V2 V3 : List Nat} {p : List Vl} {nm : ByteArray} {j : Nat} {al : List AV} {tb tb' : Tl} {r : AV} (hj : j < p.length) (h : TrI H V H' V' p nm j al tb) (hr : p[j].tree.R r) (hA : Ap H' V' H2 V2) (f2 : App V3 (al ++ [r]) tb') (f3 : Oth V2 tb V3 tb') :
  TrI H V (H2.set (H.length + 1) (.cells false [.str nm, .sl (al ++ [r]) tb'])) V3 p nm (j + 1) (al ++ [r]) tb' where
 rl := by rw [bj, aa hj, Option.toList_some, Mz]; exact RL.snoc h.rl hr
 b := gse (fy (hA.h _ _ h.b))
 ap := ⟨λ k o hk => by
  have := fy hk
  rw [gsn (by omega)]; exact hA.h _ _ (h.ap.h k o hk), λ i v hv => by
  have hlt := (List.getElem?_eq_some_iff.1 hv).1
  exact f3.2.1 i v (hA.v i v (h.ap.v i v hv)) λ ver e => by have := h.own i ver e; omega⟩
 app := f2
 own i ver e := by
  rcases f3.2.2 i ver e with ⟨v0, h1⟩ | h1
  ·exact h.own i v0 h1
  ·have h2 := h.len
   have h3 : V'.length <= V2.length := by
    rcases Nat.eq_zero_or_pos V'.length with h0 | h0
    ·omega
    ·have := hA.v (V'.length - 1) _ (aa (by omega))
     have := (List.getElem?_eq_some_iff.1 this).1
     omega
   omega
 a := by rw [gsn (by omega)]; exact hA.h _ _ h.a
 len := by
  have h2 := h.len
  have h3 : V'.length <= V2.length := by
   rcases Nat.eq_zero_or_pos V'.length with h0 | h0
   ·omega
   ·have := hA.v (V'.length - 1) _ (aa (by omega))
    have := (List.getElem?_eq_some_iff.1 this).1
    omega
  have := f3.1
  omega
theorem Pf {H H' : List fp} {V V' : List Nat} {p : List Vl} {nm : ByteArray} {j : Nat} {al : List AV} {tb : Tl} {kk : Int} (hj : p.length <= j) (h : TrI H V H' V' p nm j al tb) (hp : p.length <= 4096) :
  (Vl.ctor kk nm p).tree.R (.agg [.str nm, .sl al tb]) /\ Ap H V (H'.set H.length (.cells false [.str nm, .sl al tb])) V' := by
 have h1 := h.rl
 rw [au hj] at h1
 have h2 := RL.len h1
 rw [zc] at h2
 refine ⟨by rw [Vl.tree, Dt.R]; exact ⟨tb, al, rfl, h1, by omega⟩, λ k o hk => ?_, h.ap.v⟩
 have := fy hk
 rw [gsn (by omega)]; exact h.ap.h k o hk
theorem U3 {F : Fz} (v : Vl) : ∀ {H : List fp} {V : List Nat} {k : Nat}, Fro F H -> VR F v (.ptr k 0) -> 0 <= v.cnt -> v.cnt <= 4096 ->
  Rw 72 [.ptr k 0] ⟨H, V⟩ λ r s1 => v.tree.R r /\ Ap H V s1.H s1.T := by
 induction v using Vl.ind with
 | h v ih =>
 intro H V k hF hv h0 h1
 cases v with
 | ctor kk nm p =>
  have hc := VR.cells hF hv
  obtain ⟨pa, l, hc, hpa, hps⟩ := hc
  rw [Vl.cnt] at h0 h1
  obtain ⟨hkid, hpl⟩ := Lc p (n := 1) (by decide) (by decide) h0 h1
  have hpl : p.length <= 4096 := by omega
  have hcg := λ G : List fp => gy hc G
  have hone := hps.a1z
  have hlen := hps.len
  have hlb : jh = 9223372036854775807 := rfl
  have jy : wi = 1073741824 := rfl
  have start : TrI H V (H ++ [.cells false [.str ⟨#[]⟩, .sl [] .nil], .cells false [.str nm, .sl [] .nil]]) V p nm 0 [] .nil := ⟨by rw [List.take_zero, Vl.trees, Dt.RL], by rw [af (by omega)]; simp, .app _ _ _, .inl ⟨rfl, rfl⟩, λ _ _ e => (by cases e), by rw [af (by omega)]; simp, di _⟩
  refine ly pf72_is (dh rfl) ?_
  rcases id hpa with ⟨t, rfl⟩ | ⟨b, rfl, hb⟩
  ·simp only [pf72, ↓fj, wall, simprocAttr, wH, gq, fq, hcg]
   refine j6 (λ j => l.length - j) (λ j E H' V' => ∃ al tb, j <= l.length /\ E 2 = .ptr H.length 0 /\ E 3 = .ptr (H.length + 1) 0 /\ E 14 = .sl l t /\ E 15 = .int (l.length : Nat) /\ E 16 = .int (j : Nat) /\ TrI H V H' V' p nm j al tb) ?_ 0 ⟨[], .nil, dk _, rfl, rfl, rfl, rfl, rfl, start⟩
   rintro j E H' V' ⟨al, tb, hj, e2, e3, e14, e15, e16, ⟨i1, i2, i3, i4, i5, i6, i7⟩⟩
   have hBl := fy i2
   rcases dj j l.length with hlt | hge
   ·have hdec : decide ((j : Int) < l.length) = true := by simpa using hlt
    have hjp : j < p.length := by omega
    obtain ⟨a, g1, g2⟩ := hps.at (i := j) (aa hjp)
    obtain ⟨kc, rfl⟩ := g2.ptr
    obtain ⟨k1, k2⟩ := hkid p[j] (List.getElem_mem hjp)
    obtain ⟨r, ⟨H2, V2⟩, ⟨hr, hAp⟩, cr⟩ := (ih p[j] (List.getElem_mem hjp) (V := V') (hF.ap i3) g2 (by omega) k2).call rfl
    obtain ⟨c0, das, t0, rfl, _, _, _, _⟩ := hr.two
    have hst := hAp.h _ _ i2
    have heq : lq (.sl al tb) (.sl al tb) = true := eqT _ _ (Eg i1)
    obtain ⟨m1, m2⟩ := RL.Vf i1
    have hal := RL.len i1
    rw [zc, b7] at hal
    obtain ⟨tb', V3, f1, f2, f3⟩ := rh (es := 2) (xs := [.agg [.str c0, .sl das t0]]) (i4.ap hAp) (by simp only [ak, ao]; omega) m1 rfl
    simp only [↓fj, wall, simprocAttr, wH, e2, e3, e14, e15, e16, hdec, g1, hone, i2, hst, cr, f1, heq]
    exact jm ⟨j + 1, by omega, _, tb', by omega, e2, e3, e14, e15, iw (by omega), K0 hjp ⟨i1, i2, i3, i4, i5, i6, i7⟩ hr hAp f2 f3⟩
   ·have hdec : decide ((j : Int) < l.length) = false := by simpa using hge
    have hA2 := λ x : fp => gse (x := x) (fy i6)
    simp only [↓fj, wall, simprocAttr, wH, gq, fq, e2, e3, e14, e15, e16, hdec, i2, i6, hA2]
    exact Pf (by omega) ⟨i1, i2, i3, i4, i5, i6, i7⟩ hpl
  ·simp only [pf72, ↓fj, wall, simprocAttr, wH, gq, fq, hcg]
   refine j6 (λ j => l.length - j) (λ j E H' V' => ∃ al tb, j <= l.length /\ E 2 = .ptr H.length 0 /\ E 3 = .ptr (H.length + 1) 0 /\ E 14 = .bs b 0 l.length 1 false /\ E 15 = .int (l.length : Nat) /\ E 16 = .int (j : Nat) /\ TrI H V H' V' p nm j al tb) ?_ 0 ⟨[], .nil, dk _, rfl, rfl, rfl, rfl, rfl, start⟩
   rintro j E H' V' ⟨al, tb, hj, e2, e3, e14, e15, e16, ⟨i1, i2, i3, i4, i5, i6, i7⟩⟩
   have hBl := fy i2
   rcases dj j l.length with hlt | hge
   ·have hdec : decide ((j : Int) < l.length) = true := by simpa using hlt
    have hjp : j < p.length := by omega
    obtain ⟨a, g1, g2⟩ := hps.at (i := j) (aa hjp)
    obtain ⟨kc, rfl⟩ := g2.ptr
    have hlt1 : ((j : Nat) : Int) < (l.length : Nat) := by omega
    have hhd : (l.drop (j * 1)).head? = some (.ptr kc 0) := by rw [Nat.mul_one, List.head?_drop]; exact g1
    have hHb := i3.h b _ (hF b l hb)
    obtain ⟨k1, k2⟩ := hkid p[j] (List.getElem_mem hjp)
    obtain ⟨r, ⟨H2, V2⟩, ⟨hr, hAp⟩, cr⟩ := (ih p[j] (List.getElem_mem hjp) (V := V') (hF.ap i3) g2 (by omega) k2).call rfl
    obtain ⟨c0, das, t0, rfl, _, _, _, _⟩ := hr.two
    have hst := hAp.h _ _ i2
    have heq : lq (.sl al tb) (.sl al tb) = true := eqT _ _ (Eg i1)
    obtain ⟨m1, m2⟩ := RL.Vf i1
    have hal := RL.len i1
    rw [zc, b7] at hal
    obtain ⟨tb', V3, f1, f2, f3⟩ := rh (es := 2) (xs := [.agg [.str c0, .sl das t0]]) (i4.ap hAp) (by simp only [ak, ao]; omega) m1 rfl
    simp only [↓fj, wall, simprocAttr, wH, e2, e3, e14, e15, e16, hdec, g1, hHb, hlt1, hhd, i2, hst, cr, f1, heq]
    exact jm ⟨j + 1, by omega, _, tb', by omega, e2, e3, e14, e15, iw (by omega), K0 hjp ⟨i1, i2, i3, i4, i5, i6, i7⟩ hr hAp f2 f3⟩
   ·have hdec : decide ((j : Int) < l.length) = false := by simpa using hge
    have hA2 := λ x : fp => gse (x := x) (fy i6)
    simp only [↓fj, wall, simprocAttr, wH, gq, fq, e2, e3, e14, e15, e16, hdec, i2, i6, hA2]
    exact Pf (by omega) ⟨i1, i2, i3, i4, i5, i6, i7⟩ hpl
 | box => rw [Vl.cnt] at h0; exact absurd h0 (by decide)
 | clo _ _ => rw [Vl.cnt] at h0; exact absurd h0 (by decide)
 | pair _ _ => rw [Vl.cnt] at h0; exact absurd h0 (by decide)
end Go.Proofs.Eng
namespace Go.Proofs.Eng
open Go Go.Proofs
set_option maxRecDepth 100000
set_option maxHeartbeats 16000000
def Ms.C7 (s : Ms) : Int := if s.halted = true /\ s.err = 0 then (match s.stack with
 | [] => 27
 | v :: _ => if v.cnt < 0 then 10 else if 4096 < v.cnt then 5 else 0) else 27
def Ms.Jj (s : Ms) : Dt := if s.C7 = 0 then (match s.stack with
 | [] => .mk ⟨#[]⟩ []
 | v :: _ => v.tree) else .mk ⟨#[]⟩ []
theorem E7 : (Dt.mk ⟨#[]⟩ []).R (.agg [.str ⟨#[]⟩, .sl [] .nil]) := by rw [Dt.R]; exact ⟨.nil, [], rfl, by rw [Dt.RL], by simp⟩
section
variable {Z : List Int} {F : Fz} {H : List fp} {V : List Nat} {m : Nat} {sa fa : AV} {c : Cd} {s : Ms}
theorem MR.ap (hM : MR F H m sa fa c s) (hF : Fro F H) {H' : List fp} {V' : List Nat} (h : Ap H V H' V') : MR F H' m sa fa c s /\ Fro F H' := by
 obtain ⟨Bl, tb, t2, t3, ea, b1, b2, b3⟩ := hM.uc
 have hk : ∀ k : Nat, k < H.length -> H'[k]? = H[k]? := λ k hk => by
  rw [aa hk]; exact h.h k _ (aa hk)
 exact ⟨⟨⟨Bl, tb, t2, t3, ea, h.h _ _ b1, b2, b3⟩, hM.st.jd λ b e => hk b (hM.st.lt e), hM.fr.jd λ b e => hk b (hM.fr.lt e), hM.fz, hM.d1, hM.d2⟩, hF.ap h⟩
theorem Nk (hM : MR F H m sa fa c s) (hF : Fro F H) (hS : Safe c Z s) (hb : s.stack.length <= 1000000) : Rw 28 [.ptr m 0] ⟨H, V⟩ λ v s1 => Ap H V s1.H s1.T /\ ∃ d, v = .tup [d, .int s.C7] /\ s.Jj.R d := by
 obtain ⟨Bl, tb, t2, t3, ea, b1, b2, b3⟩ := hM.uc
 have hml := fy b1
 simp only [mcs] at b1
 refine ly pf28_is (dh rfl) ?_
 have hgm := λ G : List fp => (gal (G := G) hml).trans b1
 cases hh : s.halted
 ·have e1 : s.C7 = 27 := by rw [Ms.C7, if_neg (by rw [hh]; simp)]
  rw [hh] at hgm
  simp only [pf28, ↓fj, wall, simprocAttr, wH, gq, fq, hgm]
  refine ⟨.app _ _ _, _, by rw [e1], ?_⟩
  rw [Ms.Jj, if_neg (by rw [e1]; decide)]; exact E7
 rw [hh] at hgm
 cases he : (s.err != 0)
 ·have he0 : s.err = 0 := by simpa [bne] using he
  obtain ⟨hne, hvs⟩ : s.stack ≠ [] /\ kl c Z s.stack := by
   rcases hS with ⟨h, _⟩ | ⟨_, _, h⟩ | h
   ·exact absurd he0 h
   ·exact h
   ·rw [h.h] at hh; cases hh
  rcases hM.st with ⟨rfl, hn⟩ | ⟨b, cs, rfl, h1, h2, h3⟩
  ·exact absurd hn hne
  obtain ⟨v, st, hs⟩ : ∃ v st, s.stack = v :: st := by
   cases h : s.stack with
   | nil => exact absurd h hne
   | cons v st => exact ⟨v, st, rfl⟩
  have hok : VOK c Z v := by rw [hs, kl] at hvs; exact hvs.1
  have hL : s.stack.length = st.length + 1 := by rw [hs]; rfl
  rw [hL] at hgm h2 h3 hb
  rw [hs, List.reverse_cons] at h3
  obtain ⟨_, k2⟩ := VRs.split h3
  rw [List.length_reverse, VRs] at k2
  obtain ⟨a, l', e, hv, _⟩ := k2
  obtain ⟨ka, rfl⟩ := hv.ptr
  have hget : cs[st.length]? = some (.ptr ka 0) := by
   have := congrArg (λ l => l[0]?) e
   simp only [ba, bc, Nat.add_zero, bw] at this
   rw [if_pos (by omega)] at this; exact this
  have hw : IntKind.i64.wrap (((st.length + 1 : Nat) : Int) - 1) = (st.length : Nat) := (je (by unfold m7; omega)).trans (by omega)
  have hlt1 : ((st.length : Nat) : Int) < (st.length + 1 : Nat) := by omega
  have hhd : (cs.drop (st.length * 1)).head? = some (.ptr ka 0) := by rw [Nat.mul_one, List.head?_drop]; exact hget
  have hz : (((st.length + 1 : Nat) : Int) == 0) = false := by simp; omega
  have hgb := λ G : List fp => (gal (G := G) (fy h1)).trans h1
  obtain ⟨A, hA⟩ : ∃ A, A = fp.cells false [.str ⟨#[]⟩, .sl [] .nil] := ⟨_, rfl⟩
  have hap : Ap H V (H ++ [A, .map []]) V := .app _ _ _
  have hmi : (H ++ [A, .map []])[H.length + 1]? = some (.map []) := by rw [af (by omega)]; simp
  obtain ⟨_, _, ⟨rfl, es', rfl, hS'⟩, cr⟩ := (Rg (V := V) v hok (hF.ap hap) hv hmi (λ e he => by cases he)).call rfl
  have hset : (H ++ [A, .map []]).set (H.length + 1) (.map es') = H ++ [A, .map es'] := by rw [Dj]; rfl
  rw [hset] at cr
  have eE : s.C7 = if v.cnt < 0 then 10 else if 4096 < v.cnt then 5 else 0 := by rw [Ms.C7, if_pos ⟨hh, he0⟩, hs]
  subst hA
  cases c1 : decide (v.cnt < 0)
  ·cases c2 : decide (v.cnt > 4096)
   ·have h0 : 0 <= v.cnt := by simpa using c1
    have h4 : v.cnt <= 4096 := by simpa using c2
    obtain ⟨r, ⟨H3, V3⟩, ⟨hr, hAp⟩, ct⟩ := (U3 (V := V) v (hF.ap (.app H V [.cells false [.str ⟨#[]⟩, .sl [] .nil], .map es'])) hv h0 h4).call rfl
    obtain ⟨c0, das, t0, rfl, _, _, _, _⟩ := hr.two
    have hA3 := hAp.h H.length (.cells false [.str ⟨#[]⟩, .sl [] .nil]) (by rw [af (by omega)]; simp)
    have hA4 := λ x : fp => gse (x := x) (fy hA3)
    have e0 : s.C7 = 0 := by rw [eE, if_neg (by omega), if_neg (by omega)]
    simp only [pf28, ↓fj, wall, simprocAttr, wH, gq, fq, hgm, he, hz, hw, hlt1, hgb, hhd, cr, c1, c2, ct, hA3, hA4]
    refine ⟨⟨λ k o hk => ?_, λ i v hv => hAp.v i v hv⟩, _, by rw [e0], ?_⟩
    ·have := fy hk
     rw [gsn (by omega)]; exact hAp.h _ _ (gy hk _)
    ·rw [Ms.Jj, if_pos e0, hs]; exact hr
   ·have e1 : s.C7 = 5 := by rw [eE, if_neg (by simpa using c1), if_pos (by simpa using c2)]
    simp only [pf28, ↓fj, wall, simprocAttr, wH, gq, fq, hgm, he, hz, hw, hlt1, hgb, hhd, cr, c1, c2]
    refine ⟨.app _ _ _, _, by rw [e1], ?_⟩
    rw [Ms.Jj, if_neg (by rw [e1]; decide)]; exact E7
  ·have e1 : s.C7 = 10 := by rw [eE, if_pos (by simpa using c1)]
   simp only [pf28, ↓fj, wall, simprocAttr, wH, gq, fq, hgm, he, hz, hw, hlt1, hgb, hhd, cr, c1]
   refine ⟨.app _ _ _, _, by rw [e1], ?_⟩
   rw [Ms.Jj, if_neg (by rw [e1]; decide)]; exact E7
 ·have e1 : s.C7 = 27 := by rw [Ms.C7, if_neg (by simp [bne] at he; simp [he])]
  simp only [pf28, ↓fj, wall, simprocAttr, wH, gq, fq, hgm, he]
  refine ⟨.app _ _ _, _, by rw [e1], ?_⟩
  rw [Ms.Jj, if_neg (by rw [e1]; decide)]; exact E7
end
end Go.Proofs.Eng
namespace Go.Proofs.Eng
open Go Go.Proofs
set_option maxRecDepth 100000
def S (bk at' : Nat) (env st : List Vl) (fr : List Fr) (k : Nat) : Ms := ⟨⟨bk, at', env⟩, st, fr, k, false, 0⟩
def nv : Nat -> Vl
 | 0 => .ctor 0 nmZ []
 | n + 1 => .ctor 1 nmS [nv n]
section
variable {c : Cd} {bk at' k n : Nat} {env st : List Vl} {fr : List Fr} {x : Ins} {l : List Ins}
theorem go1 (hl : c.blk bk = l) (h : l[at']? = some x) {s : Ms} (he : (S bk (at' + 1) env st fr (k + 1)).exec c x = (s, 0)) (h0 : s.err = 0) : (S bk at' env st fr k).run c (n + 1) = s.run c n := by
 have e : (S bk at' env st fr k).step c = s := by
  rw [Ms.step, show (S bk at' env st fr k).now.bk = bk from rfl, show (S bk at' env st fr k).now.at' = at' from rfl, hl, h]
  show { ((S bk (at' + 1) env st fr (k + 1)).exec c x).1 with err := ((S bk (at' + 1) env st fr (k + 1)).exec c x).2 } = s
  rw [he]
  cases s; simp only at h0; subst h0; rfl
 rw [Ms.run, if_pos (by rfl), e]
theorem Kx {i : Nat} {v : Vl} (hl : c.blk bk = l) (h : l[at']? = some ⟨0, (i : Nat), 0, ⟨#[]⟩⟩) (hv : env[i]? = some v) : (S bk at' env st fr k).run c (n + 1) = (S bk (at' + 1) env (v :: st) fr (k + 1)).run c n :=
 go1 hl h (by rw [Ms.exec, if_pos rfl, ew, Ms.variable]; simp only [S, hv]; rfl) rfl
theorem Oc {a : Int} (hl : c.blk bk = l) (h : l[at']? = some ⟨1, a, 0, ⟨#[]⟩⟩) : (S bk at' env st fr k).run c (n + 1) = (S bk (at' + 1) env (.clo a env :: st) fr (k + 1)).run c n :=
 go1 hl h (by rw [Ms.exec, if_neg (by show ¬ (1 : Int) = 0; decide), if_pos rfl]; rfl) rfl
theorem Q2 {a : Vl} {b : Nat} {e : List Vl} (hl : c.blk bk = l) (h : l[at']? = some (.o 2)) (hf : fr.length < 65536) : (S bk at' env (a :: .clo (b : Nat) e :: st) fr k).run c (n + 1) = (S b 0 (a :: e) st (⟨bk, at' + 1, env⟩ :: fr) (k + 1)).run c n :=
 go1 hl h (by
  rw [Ms.exec, if_neg (by show ¬ (2 : Int) = 0; decide), if_neg (by show ¬ (2 : Int) = 1; decide), if_pos (show (Ins.o 2).op = 2 from rfl), Ms.apply]
  simp only [S, Ms.enter, ew]
  exact if_neg (show ¬ 65536 <= fr.length by omega)) rfl
theorem um {f : Fr} (hl : c.blk bk = l) (h : l[at']? = some (.o 3)) : (S bk at' env st (f :: fr) k).run c (n + 1) = (S f.bk f.at' f.env st fr (k + 1)).run c n :=
 go1 hl h (by
  rw [Ms.exec, if_neg (by show ¬ (3 : Int) = 0; decide), if_neg (by show ¬ (3 : Int) = 1; decide), if_neg (by show ¬ (3 : Int) = 2; decide), if_pos (show (Ins.o 3).op = 3 from rfl), Ms.leave]
  simp only [S]) rfl
theorem N2 {a : Int} {b : Nat} {nm : ByteArray} (hl : c.blk bk = l) (h : l[at']? = some ⟨4, a, (b : Nat), nm⟩) : (S bk at' env st fr k).run c (n + 1) = (S bk (at' + 1) env (.ctor a nm (st.take b).reverse :: st.drop b) fr (k + 1)).run c n :=
 go1 hl h (by
  rw [Ms.exec, if_neg (by show ¬ (4 : Int) = 0; decide), if_neg (by show ¬ (4 : Int) = 1; decide), if_neg (by show ¬ (4 : Int) = 2; decide), if_neg (by show ¬ (4 : Int) = 3; decide), if_pos rfl]
  simp only [S, ew]) rfl
theorem Vd {b : Nat} (hl : c.blk bk = l) (h : l[at']? = some ⟨7, 0, 0, ⟨#[]⟩⟩) (hs : c.st = [((b : Nat) : Int)]) (hf : fr.length < 65536) : (S bk at' env st fr k).run c (n + 1) = (S b 0 [] st (⟨bk, at' + 1, env⟩ :: fr) (k + 1)).run c n :=
 go1 hl h (by
  rw [Ms.exec, if_neg (by show ¬ (7 : Int) = 0; decide), if_neg (by show ¬ (7 : Int) = 1; decide), if_neg (by show ¬ (7 : Int) = 2; decide), if_neg (by show ¬ (7 : Int) = 3; decide), if_neg (by show ¬ (7 : Int) = 4; decide), if_neg (by show ¬ (7 : Int) = 5; decide), if_pos rfl, hs]
  simp only [S, Ms.enter, Int.toNat_zero, List.getD_cons_zero, ew]
  exact if_neg (show ¬ 65536 <= fr.length by omega)) rfl
theorem W0 {a : Nat} {kk : Nat} {nm : ByteArray} {p : List Vl} {y : Ins} (hl : c.blk bk = l) (h : l[at']? = some ⟨5, (a : Nat), 0, ⟨#[]⟩⟩) (hy : ((l.drop (at' + 1)).take a)[kk]? = some y) (hb : y.b = (p.length : Nat)) (hf : fr.length < 65536) :
  (S bk at' env (.ctor (kk : Nat) nm p :: st) fr k).run c (n + 1) = (S y.a.toNat 0 (p.reverse ++ env) st (⟨bk, at' + 1 + a, env⟩ :: fr) (k + 1)).run c n :=
 go1 hl h (by
  rw [Ms.exec, if_neg (by show ¬ (5 : Int) = 0; decide), if_neg (by show ¬ (5 : Int) = 1; decide), if_neg (by show ¬ (5 : Int) = 2; decide), if_neg (by show ¬ (5 : Int) = 3; decide), if_neg (by show ¬ (5 : Int) = 4; decide), if_pos rfl, ew, Ms.choose]
  simp only [S, Cd.brs, hl, ew, hy, hb, if_true, Ms.enter]
  exact if_neg (show ¬ 65536 <= fr.length by omega)) rfl
end
theorem I8 {c : Cd} {bk : Nat} {l : List Ins} (hl : c.blk bk = l) {env : List Vl} {fr : List Fr} : ∀ (x : Nat) {pre post : List Ins} {st : List Vl} {k n : Nat}, l = pre ++ ry x ++ post -> (S bk pre.length env st fr k).run c (n + (x + 1)) = (S bk (pre.length + (x + 1)) env (nv x :: st) fr (k + (x + 1))).run c n
 | 0, pre, post, st, k, n, h => by
  have h1 : l[pre.length]? = some ⟨4, 0, ((0 : Nat) : Int), nmZ⟩ := by rw [h, ry]; simp
  have := N2 (c := c) (env := env) (st := st) (fr := fr) (k := k) (n := n) hl h1
  rw [dp, this]; rfl
 | x + 1, pre, post, st, k, n, h => by
  have ih := I8 hl x (env := env) (fr := fr) (pre := pre) (post := ⟨4, 1, 1, nmS⟩ :: post) (st := st) (k := k) (n := n + 1) (by rw [h, ry]; simp)
  have hlen : (ry x).length = x + 1 := by
   have : ∀ x : Nat, (ry x).length = x + 1 := λ x => by
    induction x with
    | zero => rfl
    | succ x ih => rw [ry, ah, ih]; rfl
   exact this x
  have h1 : l[pre.length + (x + 1)]? = some ⟨4, 1, ((1 : Nat) : Int), nmS⟩ := by
   rw [h, ry, aj, af (by omega), Nat.add_sub_cancel_left, aj, af (by omega), hlen, Nat.sub_self]; rfl
  have h2 := N2 (c := c) (env := env) (st := nv x :: st) (fr := fr) (k := k + (x + 1)) (n := n) hl h1
  rw [show n + (x + 1 + 1) = n + 1 + (x + 1) from by omega, ih, h2]; rfl
section
variable {c : Cd} (h1 : c.blk 1 = [⟨1, 2, 0, ⟨#[]⟩⟩, .o 3]) (h2 : c.blk 2 = [⟨1, 3, 0, ⟨#[]⟩⟩, .o 3])
  (h3 : c.blk 3 = [⟨0, 1, 0, ⟨#[]⟩⟩, ⟨5, 2, 0, ⟨#[]⟩⟩, ⟨6, 4, 0, ⟨#[]⟩⟩, ⟨6, 5, 1, ⟨#[]⟩⟩, .o 3]) (h4 : c.blk 4 = [⟨0, 0, 0, ⟨#[]⟩⟩, .o 3])
  (h5 : c.blk 5 = [⟨7, 0, 0, ⟨#[]⟩⟩, ⟨0, 0, 0, ⟨#[]⟩⟩, .o 2, ⟨0, 1, 0, ⟨#[]⟩⟩, .o 2, ⟨4, 1, 1, nmS⟩, .o 3]) (hs : c.st = [((1 : Nat) : Int)])
include h1 h2 h3 h4 h5 hs
theorem Jb {y : Nat} : ∀ (x : Nat) {st : List Vl} {f : Fr} {fr : List Fr} {k n : Nat}, fr.length + 2 * x + 10 <= 65000 ->
  (S 3 0 [nv y, nv x] st (f :: fr) k).run c (n + (14 * x + 5)) = (S f.bk f.at' f.env (nv (x + y) :: st) fr (k + (14 * x + 5))).run c n
 | 0, st, f, fr, k, n, hf => by
  rw [show n + (14 * 0 + 5) = n + 1 + 1 + 1 + 1 + 1 from by omega]
  rw [Kx (i := 1) (v := nv 0) h3 rfl rfl, show nv 0 = .ctor ((0 : Nat) : Int) nmZ [] from rfl]
  rw [W0 (a := 2) (kk := 0) (y := ⟨6, 4, 0, ⟨#[]⟩⟩) h3 rfl rfl rfl (by simp; omega)]
  show (S 4 0 ([] ++ [nv y, .ctor 0 nmZ []]) st (⟨3, 4, [nv y, .ctor 0 nmZ []]⟩ :: f :: fr) _).run c _ = _
  rw [bo, Kx (i := 0) (v := nv y) h4 rfl rfl, um h4 rfl, um h3 rfl, dp]
 | x + 1, st, f, fr, k, n, hf => by
  have ih := Jb (y := y) x (st := st) (f := ⟨5, 5, [nv x, nv y, nv (x + 1)]⟩) (fr := ⟨3, 4, [nv y, nv (x + 1)]⟩ :: f :: fr) (k := k + 11) (n := n + 3) (by simp only [ak]; omega)
  rw [show n + (14 * (x + 1) + 5) = n + 3 + (14 * x + 5) + 1 + 1 + 1 + 1 + 1 + 1 + 1 + 1 + 1 + 1 + 1 from by omega]
  rw [Kx (i := 1) (v := nv (x + 1)) h3 rfl rfl]
  show (S 3 1 [nv y, nv (x + 1)] (.ctor ((1 : Nat) : Int) nmS [nv x] :: st) (f :: fr) _).run c _ = _
  rw [W0 (a := 2) (kk := 1) (y := ⟨6, 5, 1, ⟨#[]⟩⟩) h3 rfl rfl rfl (by simp; omega)]
  show (S 5 0 [nv x, nv y, nv (x + 1)] st (⟨3, 4, [nv y, nv (x + 1)]⟩ :: f :: fr) _).run c _ = _
  rw [Vd (b := 1) h5 rfl hs (by simp; omega), Oc h1 rfl, um h1 rfl]
  show (S 5 1 [nv x, nv y, nv (x + 1)] (.clo ((2 : Nat) : Int) [] :: st) (⟨3, 4, [nv y, nv (x + 1)]⟩ :: f :: fr) _).run c _ = _
  rw [Kx (i := 0) (v := nv x) h5 rfl rfl, Q2 h5 rfl (by simp; omega), Oc h2 rfl, um h2 rfl]
  show (S 5 3 [nv x, nv y, nv (x + 1)] (.clo ((3 : Nat) : Int) [nv x] :: st) (⟨3, 4, [nv y, nv (x + 1)]⟩ :: f :: fr) _).run c _ = _
  rw [Kx (i := 1) (v := nv y) h5 rfl rfl, Q2 h5 rfl (by simp; omega)]
  show (S 3 0 [nv y, nv x] st (⟨5, 5, [nv x, nv y, nv (x + 1)]⟩ :: ⟨3, 4, [nv y, nv (x + 1)]⟩ :: f :: fr) (k + 11)).run c _ = _
  rw [ih]
  show (S 5 5 [nv x, nv y, nv (x + 1)] (nv (x + y) :: st) (⟨3, 4, [nv y, nv (x + 1)]⟩ :: f :: fr) _).run c (n + 1 + 1 + 1) = _
  rw [N2 (b := 1) h5 rfl, um h5 rfl, um h3 rfl]
  rw [show x + 1 + y = x + y + 1 from by omega, show k + (14 * (x + 1) + 5) = k + 11 + (14 * x + 5) + 1 + 1 + 1 from by omega]; rfl
end
theorem Fh : ∀ x : Nat, (ry x).length = x + 1
 | 0 => rfl
 | x + 1 => by rw [ry, ah, Fh x]; rfl
theorem a02 {x y : Nat} (hx : x < 40) (hy : y < 40) : ∃ k, Ms.start.run (lf (zr x y)) 100000 = ⟨⟨0, x + y + 6, []⟩, [nv (x + y)], [], k, true, 0⟩ := by
 obtain ⟨c, hc⟩ : ∃ c, c = lf (zr x y) := ⟨_, rfl⟩
 rw [<- hc]
 rw [Tb] at hc
 have h0 : c.blk 0 = zw x y := by rw [hc]; rfl
 have h1 : c.blk 1 = [⟨1, 2, 0, ⟨#[]⟩⟩, .o 3] := by rw [hc]; rfl
 have h2 : c.blk 2 = [⟨1, 3, 0, ⟨#[]⟩⟩, .o 3] := by rw [hc]; rfl
 have h3 : c.blk 3 = [⟨0, 1, 0, ⟨#[]⟩⟩, ⟨5, 2, 0, ⟨#[]⟩⟩, ⟨6, 4, 0, ⟨#[]⟩⟩, ⟨6, 5, 1, ⟨#[]⟩⟩, .o 3] := by rw [hc]; rfl
 have h4 : c.blk 4 = [⟨0, 0, 0, ⟨#[]⟩⟩, .o 3] := by rw [hc]; rfl
 have h5 : c.blk 5 = [⟨7, 0, 0, ⟨#[]⟩⟩, ⟨0, 0, 0, ⟨#[]⟩⟩, .o 2, ⟨0, 1, 0, ⟨#[]⟩⟩, .o 2, ⟨4, 1, 1, nmS⟩, .o 3] := by rw [hc]; rfl
 have hs : c.st = [((1 : Nat) : Int)] := by rw [hc]; rfl
 obtain ⟨n, hn⟩ : ∃ n, n + 1 + (14 * x + 5) + 1 + (y + 1) + 1 + 1 + 1 + (x + 1) + 1 + 1 + 1 = 100000 := ⟨100000 - (15 * x + y + 15), by omega⟩
 have g0 : (zw x y)[0]? = some ⟨7, 0, 0, ⟨#[]⟩⟩ := rfl
 have l1 := Fh x
 have l2 := Fh y
 have e1 : zw x y = [⟨7, 0, 0, ⟨#[]⟩⟩] ++ ry x ++ (.o 2 :: (ry y ++ [.o 2] ++ [.o 3])) := by rw [zw]; simp
 have e2 : zw x y = (⟨7, 0, 0, ⟨#[]⟩⟩ :: ry x ++ [.o 2]) ++ ry y ++ [.o 2, .o 3] := by rw [zw]; simp
 have g1 : (zw x y)[x + 2]? = some (.o 2) := by rw [e1, af (by simp; omega)]; simp [l1]
 have l3 : (⟨7, 0, 0, ⟨#[]⟩⟩ :: ry x ++ [.o 2] ++ ry y : List Ins).length = x + y + 4 := by
  simp only [ah, ak, ao, bn, l1, l2]; omega
 have g2 : (zw x y)[x + y + 4]? = some (.o 2) := by
  rw [e2, <- l3, af (di _), Nat.sub_self]; rfl
 have g3 : (zw x y)[x + y + 5]? = some (.o 3) := by
  rw [e2, show x + y + 5 = (⟨7, 0, 0, ⟨#[]⟩⟩ :: ry x ++ [.o 2] ++ ry y : List Ins).length + 1 from by rw [l3], af (by omega), Nat.add_sub_cancel_left]; rfl
 have n1 := I8 h0 x (env := []) (fr := []) (st := [.clo ((2 : Nat) : Int) []]) (k := 3) (n := n + 1 + (14 * x + 5) + 1 + (y + 1) + 1 + 1 + 1) e1
 have n2 := I8 h0 y (env := []) (fr := []) (st := [.clo ((3 : Nat) : Int) [nv x]]) (k := 3 + (x + 1) + 3) (n := n + 1 + (14 * x + 5) + 1) e2
 have hp := Jb h1 h2 h3 h4 h5 hs (y := y) x (st := []) (f := ⟨0, x + y + 5, []⟩) (fr := []) (k := 3 + (x + 1) + 3 + (y + 1) + 1) (n := n + 1) (by simp; omega)
 refine ⟨3 + (x + 1) + 3 + (y + 1) + 1 + (14 * x + 5) + 1, ?_⟩
 rw [<- hn]
 show (S 0 0 [] [] [] 0).run c _ = _
 rw [Vd (b := 1) h0 g0 hs (by simp), Oc h1 rfl, um h1 rfl]
 show (S 0 1 [] [.clo ((2 : Nat) : Int) []] [] 3).run c _ = _
 rw [show (S 0 1 [] [.clo ((2 : Nat) : Int) []] [] 3) = S 0 ([⟨7, 0, 0, ⟨#[]⟩⟩] : List Ins).length [] [.clo ((2 : Nat) : Int) []] [] 3 from rfl, n1]
 rw [show ([⟨7, 0, 0, ⟨#[]⟩⟩] : List Ins).length + (x + 1) = x + 2 from by simp; omega]
 rw [Q2 h0 g1 (by simp), Oc h2 rfl, um h2 rfl]
 show (S 0 (x + 2 + 1) [] [.clo ((3 : Nat) : Int) [nv x]] [] _).run c _ = _
 rw [show x + 2 + 1 = (⟨7, 0, 0, ⟨#[]⟩⟩ :: ry x ++ [.o 2] : List Ins).length from by simp [l1], n2]
 rw [show (⟨7, 0, 0, ⟨#[]⟩⟩ :: ry x ++ [.o 2] : List Ins).length + (y + 1) = x + y + 4 from by simp [l1]; omega]
 rw [Q2 h0 g2 (by simp), hp]
 show (S 0 (x + y + 5) [] [nv (x + y)] [] _).run c (n + 1) = _
 rw [go1 h0 g3 (s := ⟨⟨0, x + y + 6, []⟩, [nv (x + y)], [], 3 + (x + 1) + 3 + (y + 1) + 1 + (14 * x + 5) + 1, true, 0⟩) rfl rfl, Jk rfl]
theorem Tp : ∀ {n : Nat}, n <= 1000 -> (nv n).cnt = ((n + 1 : Nat) : Int)
 | 0, _ => by rw [nv, Vl.cnt, Vl.nn]; rfl
 | n + 1, h => by
  have ih := Tp (n := n) (by omega)
  rw [nv, Vl.cnt, Vl.nn, if_pos (by decide), ih, if_neg (by omega), if_neg (by omega), Vl.nn]; omega
def nd : Nat -> Dt
 | 0 => .mk nmZ []
 | n + 1 => .mk nmS [nd n]
theorem Oo : ∀ n : Nat, (nv n).tree = nd n
 | 0 => rfl
 | n + 1 => by rw [nv, Vl.tree, Vl.trees, Vl.trees, Oo n]; rfl
end Go.Proofs.Eng
namespace Go.Proofs.Eng
open Go Go.Proofs Go.RowKit
set_option maxRecDepth 100000
def Ou : Option (ju × ASt) -> Bool
 | some (.ret (.v (.bool true)), _) => true
 | _ => false
theorem Ra : Ou (ql md pfs 200 11 [] ⟨[], []⟩) = true := by kernel_rfl
theorem R8 : Out md pfs 11 [] (· = .bool true) λ _ => False := by
 have h := Ra
 cases hc : ql md pfs 200 11 [] ⟨[], []⟩ with
 | none => rw [hc] at h; cases h
 | some r =>
  obtain ⟨o, s⟩ := r
  rw [hc] at h
  unfold Ou at h
  split at h
  ·rename_i s' e
   simp only [fe, ff] at e
   obtain ⟨rfl, rfl⟩ := e
   exact ⟨_, _, .ret (.bool true), X6 hc, rfl, rfl⟩
  ·cases h
end Go.Proofs.Eng
namespace Go.Proofs.Eng
open Go Go.Proofs
set_option maxRecDepth 100000
set_option maxHeartbeats 16000000
theorem MR.frame {F F' : Fz} {H H' : List fp} {U U' : Nat -> Prop} {n : Nat} {sb fb : AV} {c : Cd} {t : Ms} (hN : MR F H n sb fb c t) (hx : Nx F H U F' H' U') (hd : ∀ k, Own n sb fb k -> ¬ U k) :
  MR F' H' n sb fb c t /\ ∀ k, Own n sb fb k -> ¬ U' k := by
 obtain ⟨Bl, tb, t2, t3, ea, b1, b2, b3⟩ := hN.uc
 have hk : ∀ k : Nat, Own n sb fb k -> H'[k]? = H[k]? := λ k h => hx.jd k (hN.lt h) (hd k h)
 refine ⟨⟨⟨Bl, tb, t2, t3, ea, (hk n (.inl rfl)).trans b1, b2, ER.mono hx.le _ _ b3⟩, (hN.st.jd λ b e => hk b (.inr (.inl e))).mono hx.le, (hN.fr.jd λ b e => hk b (.inr (.inr e))).mono hx.le, λ k h => ?_, hN.d1, hN.d2⟩, λ k h hu => ?_⟩
 ·have h1 := hN.fz k h
  have h2 := hN.lt h
  cases hf : F' k with
  | none => rfl
  | some l =>
   rcases hx.new k (by rw [hf]; simp) with h3 | h3
   ·exact absurd h1 h3
   ·omega
 ·rcases hx.own k hu with h1 | h1
  ·exact hd k h h1
  ·have := hN.lt h; omega
end Go.Proofs.Eng
