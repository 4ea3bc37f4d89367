/- The law of runs in parts. No conditions beyond those in the theorems. -/
import Derived.Test.YtflfmkkcnphdcaaGreatRC
import Derived.Test.YtflfmkkcnphdcaaGreatN8
import Derived.Test.YtflfmkkcnphdcaaGreatPf57
set_option linter.all false
set_option linter.deprecated false
set_option linter.unnecessarySimpa false
set_option linter.unusedVariables false
set_option linter.unusedSimpArgs false
set_option linter.defProp false
namespace Go.Proofs.Eng
open Go Go.Proofs
set_option maxRecDepth 100000
set_option maxHeartbeats 16000000
section
variable {F : Fz} {H : List fp} {V : List Nat} {m : Nat} {sa fa : AV} {c : Cd} {s : Ms}
theorem Gp (hM : MR F H m sa fa c s) : Rw 22 [.ptr m 0] ⟨H, V⟩ λ v s1 => s1 = ⟨H, V⟩ /\ v = .int (s.ig.length : Nat) := by
 obtain ⟨Bl, tb, t2, t3, ea, b1, b2, b3⟩ := hM.sw
 simp only [mcs] at b1
 refine lf pf22_is (dg rfl) ?_
 rcases hM.fr with ⟨rfl, hn⟩ | ⟨b, cs, rfl, h1, h2, h3⟩
 ·simp only [pf22, ↓fh, wall, simprocAttr, wH, gq, fj, b1]
  rw [hn]; rfl
 ·simp only [pf22, ↓fh, wall, simprocAttr, wH, gq, fj, b1]
theorem Ag (hM : MR F H m sa fa c s) : Rw 21 [.ptr m 0] ⟨H, V⟩ λ v s1 => s1 = ⟨H, V⟩ /\ v = .int (s.steps : Nat) := by
 obtain ⟨Bl, tb, t2, t3, ea, b1, _⟩ := hM.sw
 exact Rt b1
theorem Cy {p : Pr} {pa : AV} (hp : p.Is pa) (hf : p.Nl = true) (hc : p.check = 0) (H : List fp) (V : List Nat) :
  Rw 19 [pa] ⟨H, V⟩ λ v s1 => ∃ m, v = .ptr m 0 /\ H.length <= m /\ Ap H V s1.H s1.T /\ MR (λ _ => none) s1.H m (.sl [] .nil) (.sl [] .nil) (lj p) Ms.start := by
 obtain ⟨hP, b1, b2, b3, b4, b5, b6⟩ := P3 hf hc
 obtain ⟨Z, hC⟩ := Lm b3
 have jw : vy = 1073741824 := rfl
 obtain ⟨_, hv, cc⟩ := (K9 hp (B := 12800) λ _ => ⟨hP, by omega, by omega⟩).call rfl (by simp [ft, gg, vv hp])
 rcases hv with ⟨h, _⟩ | ⟨_, a, rfl, ha⟩
 ·exact absurd hc h
 obtain ⟨gas, tg, cp, rfl, h1, h2, h3, h4, h5, h6, h7, h8, h9, h10⟩ := id hp
 obtain ⟨Bs, t1, t2, t3, rfl, g1, g2, g3, g4, g5, g6, g7⟩ := id ha
 refine lf pf19_is (dg rfl) ?_
 obtain ⟨_, ⟨H1, V1⟩, ⟨_, _, hs, hAp, hw⟩, cn⟩ := (Zx ha b4 hC.names (by omega) (by omega) (by omega) (by omega) (H ++ [.cells false (.sl gas tg :: cp), .cells false [.sl Bs t1, .sl (nmA (lj p).gl) t2, .sl (ints (lj p).st) t3]]) V).call rfl
 cases hs
 rcases hw with ⟨h, _⟩ | ⟨_, m, Bl, tb, u2, u3, hm, rfl, hb, hx⟩
 ·exact absurd b3 h
 simp only [pf19, ↓fh, wall, simprocAttr, wH, gq, fj, h5, h6, h7, cc, cn]
 have hx6 : cp.take 5 = cp := h6
 refine ⟨m, rfl, by simp at hm; omega, (Ap.app H V _).trans hAp, ⟨⟨Bl, tb, u2, u3, _, hb, hx, by rw [Ms.start, ER]⟩, .inl ⟨rfl, rfl⟩, .inl ⟨rfl, rfl⟩, λ _ _ => rfl, λ _ h => (by cases h), λ _ h => (by cases h)⟩⟩
theorem Ft {p : Pr} {pa : AV} (hp : p.Is pa) (hs : szL p.es <= 1048576) : Out md pfs 17 [pa] (· = .bool p.Nl) λ _ => False := by
 obtain ⟨gas, tg, c, rfl, h1, h2, h3, h4, h5, h6, h7, h8, h9, h10⟩ := id hp
 have hl := h3.len
 have hm : p.main.sz <= 1048576 := by have := Fk (l := p.es) (e := p.main) (by simp [Pr.es]); omega
 obtain ⟨_, rfl, cm⟩ := (Cv p.main h4).call rfl (by simp [ft, gg, lu _ h4])
 rw [Pb _ hm] at cm
 refine iu pf17_is (dg rfl) ?_
 have hlb : j7 = 9223372036854775807 := rfl
 have hszs : szL p.es = p.main.sz + szL (p.gs.map (·.2)) := rfl
 have od : ∀ i : Nat, szL ((p.gs.take i).map (·.2)) <= szL (p.gs.map (·.2)) := λ i => by
  have h := congrArg (λ l : List Gl => szL (l.map (·.2))) (cx i p.gs)
  simp only [List.map_append, n6] at h
  omega
 simp only [pf17, ↓fh, wall, simprocAttr, wH, h5, h6, h7, cm]
 refine iq (λ i => gas.length - i) (λ i E H T => H = [.cells false (.sl gas tg :: c)] /\ E 1 = .ptr 0 0 /\ E 4 = .int (i : Nat) /\ E 3 = .int ((p.main.sz + szL ((p.gs.take i).map (·.2)) : Nat) : Int) /\ i <= gas.length /\ i <= 20) ?_ 0 ⟨rfl, rfl, rfl, by rw [List.take_zero]; rfl, dj _, dj _⟩
 rintro i E _ T ⟨rfl, e1, e4, e3, hi, h20⟩
 have fin : (gas.length <= i \/ i = 20) -> (decide ((gas.length : Int) <= 12) && decide (((p.main.sz + szL ((p.gs.take i).map (·.2)) : Nat) : Int) <= 200)) = p.Nl := λ h => by
  rw [Pr.Nl, hszs]
  rcases h with h | h
  ·rw [au (by omega)]
   congr 1 <;> rw [decide_eq_decide] <;> omega
  ·have e1 : decide ((gas.length : Int) <= 12) = false := by simp; omega
   have e2 : decide (p.gs.length <= 12) = false := by simp; omega
   rw [e1, e2, ei, ei]
 rcases di i gas.length with hlt | hge
 ·have hdec : decide ((i : Int) < gas.length) = true := by simpa using hlt
  rcases di i 20 with h8' | h8'
  ·have hd8 : decide ((i : Int) < 20) = true := by simp; omega
   obtain ⟨g, _, d0, d1, d3, d4, ⟨c2, rfl, hns, hg⟩⟩ := h3.at hlt
   obtain ⟨c3, e, q1, q2⟩ := k9.cells hg
   cases e
   have q3 : c2.take 5 = c2 := au (by omega)
   have hsg : g.2.sz <= szL (p.gs.map (·.2)) := Fk (List.mem_map_of_mem (f := (·.2)) d3)
   obtain ⟨_, rfl, cs⟩ := (Cv g.2 hg).call rfl (by simp [ft, gg, lu _ hg])
   rw [Pb _ (by omega)] at cs
   have hp' := od i
   have hw : IntKind.i64.wrap (((p.main.sz + szL ((p.gs.take i).map (·.2)) : Nat) : Int) + ((g.2.sz : Nat) : Int)) = ((p.main.sz + szL ((p.gs.take (i + 1)).map (·.2)) : Nat) : Int) := by
    rw [bj, d0, List.map_append, n6]
    simp only [Option.toList, bq, List.map_nil, szL]
    rw [jd (by unfold mg; omega)]; omega
   simp only [↓fh, wall, simprocAttr, wH, e1, e3, e4, hdec, hd8, d4, h10, q1, q2, q3, cs, hw]
   exact j6 ⟨i + 1, by omega, rfl, e1, gw (by omega), rfl, by omega, by omega⟩
  ·have hd8 : decide ((i : Int) < 20) = false := by simp; omega
   rw [<- fin (.inr (by omega))]
   cases q1 : decide ((gas.length : Int) <= 12) <;> simp only [↓fh, wall, simprocAttr, wH, e1, e3, e4, hdec, hd8, q1, ei, Bool.true_and]
 ·have hdec : decide ((i : Int) < gas.length) = false := by simpa using hge
  rw [<- fin (.inl (by omega))]
  cases q1 : decide ((gas.length : Int) <= 12) <;> simp only [↓fh, wall, simprocAttr, wH, e1, e3, e4, hdec, q1, ei, Bool.true_and]
end
end Go.Proofs.Eng
namespace Go.Proofs.Eng
open Go Go.Proofs
set_option maxRecDepth 100000
set_option maxHeartbeats 16000000
mutual
def Vl.cnt : Vl -> Int
 | .ctor _ _ p => Vl.oq 1 p
 | .box => -1
 | .clo _ _ => -1
 | .pair _ _ => -1
def Vl.oq : Int -> List Vl -> Int
 | n, [] => n
 | n, v :: p => if 0 < n then Vl.oq (if v.cnt < 0 then -1 else if 4097 < n + v.cnt then 4097 else n + v.cnt) p else n
end
theorem B6 {n : Int} (h : ¬ 0 < n) : ∀ p : List Vl, Vl.oq n p = n
 | [] => by rw [Vl.oq]
 | v :: p => by rw [Vl.oq, if_neg h]
mutual
theorem Ny : ∀ v : Vl, -1 <= v.cnt /\ v.cnt <= 4097
 | .ctor _ _ p => by rw [Vl.cnt]; exact Pv p (by decide) (by decide)
 | .box => by rw [Vl.cnt]; decide
 | .clo _ _ => by rw [Vl.cnt]; decide
 | .pair _ _ => by rw [Vl.cnt]; decide
theorem Pv : ∀ (p : List Vl) {n : Int}, -1 <= n -> n <= 4097 -> -1 <= Vl.oq n p /\ Vl.oq n p <= 4097
 | [], n, h1, h2 => by rw [Vl.oq]; exact ⟨h1, h2⟩
 | v :: p, n, h1, h2 => by
  rw [Vl.oq]
  have := Ny v
  split
  ·exact Pv p (by split <;> (try split) <;> omega) (by split <;> (try split) <;> omega)
  ·exact ⟨h1, h2⟩
end
theorem PA.uniq {F : Fz} {l m : List AV} {pa : AV} (h : PA F l pa) (k : PA F m pa) : l = m := by
 rcases h with ⟨t, rfl⟩ | ⟨b, rfl, h⟩
 ·rcases k with ⟨t', k⟩ | ⟨b, k, _⟩
  ·cases k; rfl
  ·cases k
 ·rcases k with ⟨t', k⟩ | ⟨b', k, k2⟩
  ·cases k
  ·injection k with e1
   subst e1
   rw [h] at k2; cases k2; rfl
mutual
theorem VR.uniq {F : Fz} : ∀ {v w : Vl} {a : AV}, VR F v a -> VR F w a -> v = w
 | .box, w, a, h, k => by
  rw [VR] at h
  obtain ⟨b, rfl, h⟩ := h
  cases w with
  | box => rfl
  | clo n e => rw [VR] at k; obtain ⟨_, _, e, k, _⟩ := k; cases e; rw [h] at k; cases k
  | ctor n m q => rw [VR] at k; obtain ⟨_, _, _, e, k, _⟩ := k; cases e; rw [h] at k; cases k
  | pair x y => rw [VR] at k; obtain ⟨_, _, _, _, e, k, _⟩ := k; cases e; rw [h] at k; cases k
 | .clo n e, w, a, h, k => by
  rw [VR] at h
  obtain ⟨b, ea, rfl, h, h2⟩ := h
  cases w with
  | box => rw [VR] at k; obtain ⟨_, e, k⟩ := k; cases e; rw [h] at k; cases k
  | clo n' e' =>
   rw [VR] at k
   obtain ⟨_, ea', e, k, k2⟩ := k
   cases e; rw [h] at k; cases k
   rw [ER.uniq h2 k2]
  | ctor n m q => rw [VR] at k; obtain ⟨_, _, _, e, k, _⟩ := k; cases e; rw [h] at k; cases k
  | pair x y => rw [VR] at k; obtain ⟨_, _, _, _, e, k, _⟩ := k; cases e; rw [h] at k; cases k
 | .ctor n nm p, w, a, h, k => by
  rw [VR] at h
  obtain ⟨b, pa, l, rfl, h, h2, h3⟩ := h
  cases w with
  | box => rw [VR] at k; obtain ⟨_, e, k⟩ := k; cases e; rw [h] at k; cases k
  | clo n' e' => rw [VR] at k; obtain ⟨_, ea', e, k, k2⟩ := k; cases e; rw [h] at k; cases k
  | ctor n' m q =>
   rw [VR] at k
   obtain ⟨_, _, _, e, k, k2, k3⟩ := k
   cases e; rw [h] at k; cases k
   have := h2.uniq k2
   subst this
   rw [VRs.uniq h3 k3]
  | pair x y => rw [VR] at k; obtain ⟨_, _, _, _, e, k, _⟩ := k; cases e; rw [h] at k; cases k
 | .pair x y, w, a, h, k => by
  rw [VR] at h
  obtain ⟨b, ax, ay, t, rfl, h, h2, h3⟩ := h
  cases w with
  | box => rw [VR] at k; obtain ⟨_, e, k⟩ := k; cases e; rw [h] at k; cases k
  | clo n' e' => rw [VR] at k; obtain ⟨_, ea', e, k, k2⟩ := k; cases e; rw [h] at k; cases k
  | ctor n m q => rw [VR] at k; obtain ⟨_, _, _, e, k, _⟩ := k; cases e; rw [h] at k; cases k
  | pair x' y' =>
   rw [VR] at k
   obtain ⟨_, _, _, _, e, k, k2, k3⟩ := k
   cases e; rw [h] at k; cases k
   rw [VR.uniq h2 k2, VR.uniq h3 k3]
theorem ER.uniq {F : Fz} : ∀ {e f : List Vl} {a : AV}, ER F e a -> ER F f a -> e = f
 | [], f, a, h, k => by
  rw [ER] at h; subst h
  cases f with
  | nil => rfl
  | cons v f => rw [ER] at k; obtain ⟨_, _, _, e, _⟩ := k; cases e
 | v :: e, f, a, h, k => by
  rw [ER] at h
  obtain ⟨b, av, ea, rfl, h, h2, h3⟩ := h
  cases f with
  | nil => rw [ER] at k; cases k
  | cons w f =>
   rw [ER] at k
   obtain ⟨_, av', ea', e1, k, k2, k3⟩ := k
   cases e1; rw [h] at k; cases k
   rw [VR.uniq h2 k2, ER.uniq h3 k3]
theorem VRs.uniq {F : Fz} : ∀ {p q : List Vl} {l : List AV}, VRs F p l -> VRs F q l -> p = q
 | [], q, l, h, k => by
  rw [VRs] at h; subst h
  cases q with
  | nil => rfl
  | cons v q => rw [VRs] at k; obtain ⟨_, _, e, _⟩ := k; cases e
 | v :: p, q, l, h, k => by
  rw [VRs] at h
  obtain ⟨a, l', rfl, h1, h2⟩ := h
  cases q with
  | nil => rw [VRs] at k; cases k
  | cons w q =>
   rw [VRs] at k
   obtain ⟨a', l'', e, k1, k2⟩ := k
   cases e
   rw [VR.uniq h1 k1, VRs.uniq h2 k2]
end
def Cu (F : Fz) (es : List (AV × AV)) : Prop := ∀ e ∈ es, ∃ (k : Nat) (v : Vl), e = (.ptr k 0, .int v.cnt) /\ VR F v (.ptr k 0)
theorem L0 {k j : Nat} : mv .pt (.ptr k 0) (.ptr j 0) = some (k == j) := by simp [mv]
theorem Px {F : Fz} {v : Vl} {k : Nat} (hv : VR F v (.ptr k 0)) : ∀ {es : List (AV × AV)}, Cu F es -> ml .pt (.ptr k 0) es = some none \/ ml .pt (.ptr k 0) es = some (some (.int v.cnt))
 | [], _ => .inl rfl
 | e :: es, h => by
  obtain ⟨j, w, rfl, hw⟩ := h e (by simp)
  have ih := Px hv (es := es) λ x hx => h x (by simp [hx])
  rw [ml, L0]
  by_cases hj : k = j
  ·subst hj
   rw [VR.uniq hv hw]
   simp
  ·have : (k == j) = false := by simpa using hj
   rw [this]; exact ih
theorem Lf {F : Fz} {v : Vl} {k : Nat} (hv : VR F v (.ptr k 0)) : ∀ {es : List (AV × AV)}, Cu F es -> ∃ es', upA .pt (.ptr k 0) (.int v.cnt) es = some es' /\ Cu F es'
 | [], _ => ⟨[(.ptr k 0, .int v.cnt)], rfl, λ e he => by rw [List.mem_singleton.1 he]; exact ⟨k, v, rfl, hv⟩⟩
 | e :: es, h => by
  obtain ⟨j, w, rfl, hw⟩ := h e (by simp)
  obtain ⟨es', e1, e2⟩ := Lf hv (es := es) λ x hx => h x (by simp [hx])
  rw [upA, L0]
  by_cases hj : k = j
  ·subst hj
   rw [beq_self_eq_true]
   refine ⟨(.ptr k 0, .int v.cnt) :: es, rfl, λ x hx => ?_⟩
   rcases List.mem_cons.1 hx with rfl | hx
   ·exact ⟨k, v, rfl, hv⟩
   ·exact h x (by simp [hx])
  ·have : (k == j) = false := by simpa using hj
   rw [this]
   simp only [e1, ff]
   refine ⟨_, rfl, λ x hx => ?_⟩
   rcases List.mem_cons.1 hx with rfl | hx
   ·exact ⟨j, w, rfl, hw⟩
   ·exact e2 x hx
theorem Q0 {F : Fz} {H : List fp} (hF : Fro F H) {v : Vl} {k : Nat} (hv : VR F v (.ptr k 0)) {es : List (AV × AV)} (h : Cu F es) : rn H .pt (.ptr k 0) es = true := by
 have one : ∀ {w : Vl} {j : Nat}, VR F w (.ptr j 0) -> pq H (.ptr j 0) = true := λ {w j} hw => by
  have := VR.cells hF hw
  cases w
  ·simp only at this; simp [pq, this]
  ·obtain ⟨_, this, _⟩ := this; simp [pq, this]
  ·obtain ⟨_, _, this, _⟩ := this; simp [pq, this]
  ·obtain ⟨_, _, _, this, _⟩ := this; simp [pq, this]
 rw [rn, dw]
 refine ⟨one hv, aw.2 λ e he => ?_⟩
 obtain ⟨j, w, rfl, hw⟩ := h e he
 exact one hw
def Vl.parts : Vl -> List Vl
 | .ctor _ _ p => p
 | _ => []
theorem Vl.ind {P : Vl -> Prop} (h : ∀ v, (∀ w ∈ v.parts, P w) -> P v) (v : Vl) : P v := by
 have key : ∀ n v, SizeOf.sizeOf v <= n -> P v := by
  intro n
  induction n with
  | zero => intro v hv; cases v <;> simp at hv
  | succ n ih =>
   intro v hv
   refine h v λ w hw => ih w ?_
   cases v with
   | ctor k nm p =>
    have := List.sizeOf_lt_of_mem (show w ∈ p from hw)
    simp at hv
    omega
   | _ => cases hw
 exact key _ v (dh _)
theorem Fro.a08 {F : Fz} {H : List fp} (h : Fro F H) {mi : Nat} {es es' : List (AV × AV)} (hm : H[mi]? = some (.map es)) : Fro F (H.set mi (.map es')) := λ k c hk => by
 have h1 := h k c hk
 rw [gsn λ e => by subst e; rw [hm] at h1; cases h1]; exact h1
theorem Fb {H : List fp} {i : Nat} {x : fp} (h : H[i]? = some x) : H.set i x = H := by
 refine List.ext_getElem? λ k => ?_
 rw [b9]
 split
 ·rename_i e
  subst e
  rw [if_pos (fy h), h]
 ·rfl
theorem Qi {c : Cd} {Z : List Int} {F : Fz} (v : Vl) : ∀ {H : List fp} {V : List Nat} {mi k : Nat} {es : List (AV × AV)}, VOK c Z v -> Fro F H -> VR F v (.ptr k 0) -> H[mi]? = some (.map es) -> Cu F es ->
  Rw 71 [.ptr k 0, .mp mi] ⟨H, V⟩ λ r s1 => r = .int v.cnt /\ ∃ es', s1 = ⟨H.set mi (.map es'), V⟩ /\ Cu F es' := by
 induction v using Vl.ind with
 | h v ih =>
 intro H V mi k es hok hF hv hm hS
 have hlv := Q0 hF hv hS
 have hml := fy hm
 have hc := VR.cells hF hv
 refine lf pf71_is (dg rfl) ?_
 rcases Px hv hS with hk | hk
 ·cases v with
  | ctor kk nm p =>
   obtain ⟨pa, l, hc, hpa, hps⟩ := hc
   rw [VOK] at hok
   obtain ⟨_, hok1, hok2⟩ := hok
   have hkm : k ≠ mi := λ e => by subst e; rw [hm] at hc; cases hc
   have gk := λ (y : fp) => (gsn (H := H) (x := y) hkm).trans hc
   have hone := hps.Yy
   have hlen := hps.len
   have hlb : j7 = 9223372036854775807 := rfl
   have hF' := λ es' => hF.a08 (es' := es') hm
   simp only [Vl.cnt] at ih ⊢
   have fin : ∀ {es1 : List (AV × AV)} {acc : Int}, acc = Vl.oq 1 p -> Cu F es1 -> ∃ es2, upA .pt (.ptr k 0) (.int acc) es1 = some es2 /\ Cu F es2 := λ {es1 acc} e h => by
    have := Lf hv h
    rw [Vl.cnt] at this
    rw [e]; exact this
   have hl1 : ∀ es1, Cu F es1 -> rn (H.set mi (.map es1)) .pt (.ptr k 0) es1 = true := λ es1 h => Q0 (hF' es1) hv h
   have hg : ∀ x : fp, (H.set mi x)[mi]? = some x := λ x => gse hml
   rcases id hpa with ⟨t, rfl⟩ | ⟨b, rfl, hb⟩
   ·simp only [pf71, ↓fh, wall, simprocAttr, wH, gq, fj, hm, hlv, hk, hc]
    refine iq (λ j => l.length - j) (λ j E H' V' => ∃ acc es1, j <= l.length /\ E 0 = .ptr k 0 /\ E 1 = .mp mi /\ E 7 = .int acc /\ E 8 = .int (j : Nat) /\ H' = H.set mi (.map es1) /\ V' = V /\ Cu F es1 /\ Vl.oq acc (p.drop j) = Vl.oq 1 p /\ -1 <= acc /\ acc <= 4097) ?_ 0
     ⟨1, es, dj _, rfl, rfl, rfl, rfl, (Fb hm).symm, rfl, hS, rfl, by decide, by decide⟩
    rintro j E _ V1 ⟨acc, es1, hj, e0, e1, e7, e8, rfl, rfl, hS1, hacc, ha1, ha2⟩
    have ends : acc = Vl.oq 1 p -> ∃ es2, upA .pt (.ptr k 0) (.int acc) es1 = some es2 /\ Cu F es2 := λ hx => fin hx hS1
    cases hd : decide (acc > 0)
    ·have hx : acc = Vl.oq 1 p := by rw [<- hacc, B6 (by simpa using hd)]
     obtain ⟨es2, hu, hS2⟩ := ends hx
     simp only [↓fh, wall, simprocAttr, wH, gq, fj, e0, e1, e7, e8, hd, hg, hl1 es1 hS1, hu, List.set_set]
     exact ⟨by rw [hx], es2, rfl, hS2⟩
    rcases di j l.length with hlt | hge
    ·have hdec : decide ((j : Int) < l.length) = true := by simpa using hlt
     have hjp : j < p.length := by omega
     obtain ⟨a, g1, g2⟩ := hps.at (i := j) (aa hjp)
     obtain ⟨kc, rfl⟩ := g2.ptr
     obtain ⟨_, _, ⟨rfl, es2, rfl, hS2⟩, cr⟩ := (ih p[j] (V := V1) (List.getElem_mem hjp) (m8.1 hok2 _ (List.getElem_mem hjp)) (hF' es1) g2 (hg _) hS1).call rfl
     rw [bx hjp, Vl.oq, if_pos (by simpa using hd)] at hacc
     obtain ⟨c1, c2⟩ := Ny p[j]
     cases hn : decide (p[j].cnt < 0)
     ·have hw : IntKind.i64.wrap (acc + p[j].cnt) = acc + p[j].cnt := jd (by unfold mg; omega)
      have hacc' : acc > 0 := by simpa using hd
      have hn' : ¬ p[j].cnt < 0 := by simpa using hn
      rw [if_neg hn'] at hacc
      simp only [↓fh, wall, simprocAttr, wH, e0, e1, e7, e8, hd, hdec, gk, g1, hone, cr, hn, hw, List.set_set]
      exact j6 ⟨j + 1, by omega, _, es2, by omega, e0, e1, rfl, gw (by omega), rfl, rfl, hS2, hacc, by split <;> omega, by split <;> omega⟩
     ·rw [if_pos (by simpa using hn)] at hacc
      simp only [↓fh, wall, simprocAttr, wH, e0, e1, e7, e8, hd, hdec, gk, g1, hone, cr, hn, List.set_set]
      exact j6 ⟨j + 1, by omega, _, es2, by omega, e0, e1, rfl, gw (by omega), rfl, rfl, hS2, hacc, by decide, by decide⟩
    ·have hdec : decide ((j : Int) < l.length) = false := by simpa using hge
     have hx : acc = Vl.oq 1 p := by rw [<- hacc, bt (by omega), Vl.oq]
     obtain ⟨es2, hu, hS2⟩ := ends hx
     simp only [↓fh, wall, simprocAttr, wH, gq, fj, e0, e1, e7, e8, hd, hdec, gk, hg, hl1 es1 hS1, hu, List.set_set]
     exact ⟨by rw [hx], es2, rfl, hS2⟩
   ·have hBb : ∀ es1, (H.set mi (.map es1))[b]? = some (.cells false l) := λ es1 => hF' es1 b l hb
    simp only [pf71, ↓fh, wall, simprocAttr, wH, gq, fj, hm, hlv, hk, hc]
    refine iq (λ j => l.length - j) (λ j E H' V' => ∃ acc es1, j <= l.length /\ E 0 = .ptr k 0 /\ E 1 = .mp mi /\ E 7 = .int acc /\ E 8 = .int (j : Nat) /\ H' = H.set mi (.map es1) /\ V' = V /\ Cu F es1 /\ Vl.oq acc (p.drop j) = Vl.oq 1 p /\ -1 <= acc /\ acc <= 4097) ?_ 0
     ⟨1, es, dj _, rfl, rfl, rfl, rfl, (Fb hm).symm, rfl, hS, rfl, by decide, by decide⟩
    rintro j E _ V1 ⟨acc, es1, hj, e0, e1, e7, e8, rfl, rfl, hS1, hacc, ha1, ha2⟩
    have ends : acc = Vl.oq 1 p -> ∃ es2, upA .pt (.ptr k 0) (.int acc) es1 = some es2 /\ Cu F es2 := λ hx => fin hx hS1
    cases hd : decide (acc > 0)
    ·have hx : acc = Vl.oq 1 p := by rw [<- hacc, B6 (by simpa using hd)]
     obtain ⟨es2, hu, hS2⟩ := ends hx
     simp only [↓fh, wall, simprocAttr, wH, gq, fj, e0, e1, e7, e8, hd, hg, hl1 es1 hS1, hu, List.set_set]
     exact ⟨by rw [hx], es2, rfl, hS2⟩
    rcases di j l.length with hlt | hge
    ·have hdec : decide ((j : Int) < l.length) = true := by simpa using hlt
     have hjp : j < p.length := by omega
     obtain ⟨a, g1, g2⟩ := hps.at (i := j) (aa hjp)
     obtain ⟨kc, rfl⟩ := g2.ptr
     have hlt1 : ((j : Nat) : Int) < (l.length : Nat) := by omega
     have hhd : (l.drop (j * 1)).head? = some (.ptr kc 0) := by rw [Nat.mul_one, List.head?_drop]; exact g1
     have hHb := hBb es1
     obtain ⟨_, _, ⟨rfl, es2, rfl, hS2⟩, cr⟩ := (ih p[j] (V := V1) (List.getElem_mem hjp) (m8.1 hok2 _ (List.getElem_mem hjp)) (hF' es1) g2 (hg _) hS1).call rfl
     rw [bx hjp, Vl.oq, if_pos (by simpa using hd)] at hacc
     obtain ⟨c1, c2⟩ := Ny p[j]
     cases hn : decide (p[j].cnt < 0)
     ·have hw : IntKind.i64.wrap (acc + p[j].cnt) = acc + p[j].cnt := jd (by unfold mg; omega)
      have hacc' : acc > 0 := by simpa using hd
      have hn' : ¬ p[j].cnt < 0 := by simpa using hn
      rw [if_neg hn'] at hacc
      simp only [↓fh, wall, simprocAttr, wH, e0, e1, e7, e8, hd, hdec, gk, g1, hHb, hlt1, hhd, cr, hn, hw, List.set_set]
      exact j6 ⟨j + 1, by omega, _, es2, by omega, e0, e1, rfl, gw (by omega), rfl, rfl, hS2, hacc, by split <;> omega, by split <;> omega⟩
     ·rw [if_pos (by simpa using hn)] at hacc
      simp only [↓fh, wall, simprocAttr, wH, e0, e1, e7, e8, hd, hdec, gk, g1, hHb, hlt1, hhd, cr, hn, List.set_set]
      exact j6 ⟨j + 1, by omega, _, es2, by omega, e0, e1, rfl, gw (by omega), rfl, rfl, hS2, hacc, by decide, by decide⟩
    ·have hdec : decide ((j : Int) < l.length) = false := by simpa using hge
     have hx : acc = Vl.oq 1 p := by rw [<- hacc, bt (by omega), Vl.oq]
     obtain ⟨es2, hu, hS2⟩ := ends hx
     simp only [↓fh, wall, simprocAttr, wH, gq, fj, e0, e1, e7, e8, hd, hdec, gk, hg, hl1 es1 hS1, hu, List.set_set]
     exact ⟨by rw [hx], es2, rfl, hS2⟩
  | box =>
   obtain ⟨es', hu, hS'⟩ := Lf hv hS
   simp only [Vl.cnt] at hu
   simp only [pf71, ↓fh, wall, simprocAttr, wH, gq, fj, hm, hlv, hk, hc]
   refine iq (λ _ => 0) (λ (_ : Nat) E H' V' => E 0 = .ptr k 0 /\ E 1 = .mp mi /\ E 7 = .int (-1) /\ H' = H /\ V' = V) ?_ 0 ⟨rfl, rfl, rfl, rfl, rfl⟩
   rintro _ E _ _ ⟨e0, e1, e7, rfl, rfl⟩
   have hd : decide ((-1 : Int) > 0) = false := rfl
   simp only [↓fh, wall, simprocAttr, wH, gq, fj, e0, e1, e7, hd, hm, hlv, hu]
   exact ⟨by rw [Vl.cnt], es', rfl, hS'⟩
  | clo n e =>
   obtain ⟨ea, hc, _⟩ := hc
   obtain ⟨es', hu, hS'⟩ := Lf hv hS
   simp only [Vl.cnt] at hu
   simp only [pf71, ↓fh, wall, simprocAttr, wH, gq, fj, hm, hlv, hk, hc]
   refine iq (λ _ => 0) (λ (_ : Nat) E H' V' => E 0 = .ptr k 0 /\ E 1 = .mp mi /\ E 7 = .int (-1) /\ H' = H /\ V' = V) ?_ 0 ⟨rfl, rfl, rfl, rfl, rfl⟩
   rintro _ E _ _ ⟨e0, e1, e7, rfl, rfl⟩
   have hd : decide ((-1 : Int) > 0) = false := rfl
   simp only [↓fh, wall, simprocAttr, wH, gq, fj, e0, e1, e7, hd, hm, hlv, hu]
   exact ⟨by rw [Vl.cnt], es', rfl, hS'⟩
  | pair x y =>
   obtain ⟨ax, ay, t, hc, _⟩ := hc
   obtain ⟨es', hu, hS'⟩ := Lf hv hS
   simp only [Vl.cnt] at hu
   simp only [pf71, ↓fh, wall, simprocAttr, wH, gq, fj, hm, hlv, hk, hc]
   refine iq (λ _ => 0) (λ (_ : Nat) E H' V' => E 0 = .ptr k 0 /\ E 1 = .mp mi /\ E 7 = .int (-1) /\ H' = H /\ V' = V) ?_ 0 ⟨rfl, rfl, rfl, rfl, rfl⟩
   rintro _ E _ _ ⟨e0, e1, e7, rfl, rfl⟩
   have hd : decide ((-1 : Int) > 0) = false := rfl
   simp only [↓fh, wall, simprocAttr, wH, gq, fj, e0, e1, e7, hd, hm, hlv, hu]
   exact ⟨by rw [Vl.cnt], es', rfl, hS'⟩
 ·simp only [pf71, ↓fh, wall, simprocAttr, wH, gq, fj, hm, hlv, hk]
  exact ⟨es, by rw [Fb hm], hS⟩
end Go.Proofs.Eng
namespace Go.Proofs.Eng
open Go Go.Proofs
set_option maxRecDepth 100000
set_option maxHeartbeats 16000000
inductive Dt where
 | mk (c : ByteArray) (l : List Dt)
mutual
def Dt.R : Dt -> AV -> Prop
 | .mk c l, a => ∃ t das, a = .agg [.str c, .sl das t] /\ Dt.RL l das /\ das.length <= 1000000
def Dt.RL : List Dt -> List AV -> Prop
 | [], l => l = []
 | d :: ds, l => ∃ a l', l = a :: l' /\ d.R a /\ Dt.RL ds l'
end
theorem RL.len : ∀ {p : List Dt} {l : List AV}, Dt.RL p l -> l.length = p.length
 | [], l, k => by rw [Dt.RL] at k; rw [k]; rfl
 | v :: p, l, k => by
  rw [Dt.RL] at k
  obtain ⟨a, l', rfl, _, h⟩ := k
  rw [ak, ak, RL.len h]
theorem RL.snoc : ∀ {p : List Dt} {l : List AV} {d : Dt} {a : AV}, Dt.RL p l -> d.R a -> Dt.RL (p ++ [d]) (l ++ [a])
 | [], l, d, a, h, k => by rw [Dt.RL] at h; subst h; rw [bo, Dt.RL]; exact ⟨a, [], rfl, k, by rw [Dt.RL]⟩
 | x :: p, l, d, a, h, k => by
  rw [Dt.RL] at h
  obtain ⟨b, l', rfl, h1, h2⟩ := h
  rw [bn, bn, Dt.RL]
  exact ⟨b, l' ++ [a], rfl, h1, RL.snoc h2 k⟩
theorem RL.at : ∀ {p : List Dt} {l : List AV} {i : Nat} {d : Dt}, Dt.RL p l -> p[i]? = some d -> ∃ a, l[i]? = some a /\ d.R a
 | [], _, _, _, _, h => by simp at h
 | v :: p, l, 0, _, h, e => by
  rw [Dt.RL] at h
  obtain ⟨a, l', rfl, h1, _⟩ := h
  simp at e; subst e; exact ⟨a, rfl, h1⟩
 | v :: p, l, i + 1, _, h, e => by
  rw [Dt.RL] at h
  obtain ⟨a, l', rfl, _, h2⟩ := h
  obtain ⟨b, h3, h4⟩ := RL.at h2 (by simpa using e)
  exact ⟨b, by simpa using h3, h4⟩
theorem Dt.R.two {d : Dt} {a : AV} (h : d.R a) : ∃ c das t, a = .agg [.str c, .sl das t] /\ ∃ l, d = .mk c l /\ Dt.RL l das /\ das.length <= 1000000 := by
 cases d with
 | mk c l => rw [Dt.R] at h; obtain ⟨t, das, rfl, h1, h2⟩ := h; exact ⟨c, das, t, rfl, l, rfl, h1, h2⟩
theorem Dt.ind {P : Dt -> Prop} (h : ∀ c l, (∀ x ∈ l, P x) -> P (.mk c l)) (e : Dt) : P e := by
 have key : ∀ n e, SizeOf.sizeOf e <= n -> P e := by
  intro n
  induction n with
  | zero => intro e he; cases e; simp at he
  | succ n ih =>
   intro e he
   cases e with
   | mk c l =>
    refine h c l λ x hx => ih x ?_
    have := List.sizeOf_lt_of_mem hx
    simp at he
    omega
 exact key _ e (dh _)
theorem RL.Lw : ∀ {p : List Dt} {l : List AV}, Dt.RL p l -> (l.all λ x => x.cells.length == 2) = true /\ (l.all λ x => x.cells.length == 2 && x.cells.all gv) = true
 | [], l, h => by rw [Dt.RL] at h; subst h; exact ⟨rfl, rfl⟩
 | d :: p, l, h => by
  rw [Dt.RL] at h
  obtain ⟨a, l', rfl, h1, h2⟩ := h
  obtain ⟨c, das, t, rfl, _⟩ := h1.two
  obtain ⟨h3, h4⟩ := RL.Lw h2
  rw [da, da, h3, h4]; exact ⟨rfl, rfl⟩
theorem Zs (d : Dt) : ∀ {a : AV}, d.R a -> l6 a a = true := by
 induction d using Dt.ind with
 | h c l ih =>
  intro a h
  rw [Dt.R] at h
  obtain ⟨t, das, rfl, h1, _⟩ := h
  have key : ∀ (l' : List Dt) (al : List AV), (∀ x ∈ l', x ∈ l) -> Dt.RL l' al -> jf al al = true := by
   intro l'
   induction l' with
   | nil => intro al _ h; rw [Dt.RL] at h; subst h; rw [jf]
   | cons x l' ih' =>
    intro al hx h
    rw [Dt.RL] at h
    obtain ⟨a, al', rfl, h3, h4⟩ := h
    rw [jf, ih x (hx x (by simp)) h3, ih' al' (λ y hy => hx y (by simp [hy])) h4]; rfl
  rw [l6, jf, jf, jf, Ba, eqT _ _ (key l das (λ _ h => h) h1)]; rfl
mutual
def Vl.tree : Vl -> Dt
 | .ctor _ nm p => .mk nm (Vl.trees p)
 | .box => .mk ⟨#[]⟩ []
 | .clo _ _ => .mk ⟨#[]⟩ []
 | .pair _ _ => .mk ⟨#[]⟩ []
def Vl.trees : List Vl -> List Dt
 | [] => []
 | v :: p => v.tree :: Vl.trees p
end
theorem yz : ∀ p : List Vl, (Vl.trees p).length = p.length
 | [] => rfl
 | x :: p => by rw [Vl.trees, ak, ak, yz p]
theorem Bj : ∀ (p : List Vl) {n : Int}, 0 < n -> n <= 4097 -> Vl.oq n p = -1 \/ n <= Vl.oq n p
 | [], n, _, _ => by rw [Vl.oq]; exact .inr (Int.le_refl _)
 | v :: p, n, h, h2 => by
  rw [Vl.oq, if_pos h]
  split
  ·exact .inl (B6 (by decide) _)
  ·split
   ·rcases Bj p (n := 4097) (by decide) (by decide) with h1 | h1
    ·exact .inl h1
    ·exact .inr (by omega)
   ·rcases Bj p (n := n + v.cnt) (by omega) (by omega) with h1 | h1
    ·exact .inl h1
    ·exact .inr (by omega)
theorem Y5 (v : Vl) : v.cnt = -1 \/ 1 <= v.cnt := by
 cases v with
 | ctor k nm p =>
  rw [Vl.cnt]
  exact Bj p (by decide) (by decide)
 | _ => left; rw [Vl.cnt]
theorem Kk : ∀ (p : List Vl) {n : Int}, 0 < n -> n <= 4096 -> 0 <= Vl.oq n p -> Vl.oq n p <= 4096 -> (∀ w ∈ p, 1 <= w.cnt /\ w.cnt <= 4096) /\ n + (p.length : Nat) <= 4096
 | [], n, _, h, _, _ => ⟨λ w hw => (by cases hw), by simpa using h⟩
 | v :: p, n, h1, h2, h3, h4 => by
  rw [Vl.oq, if_pos h1] at h3 h4
  rcases Y5 v with hv | hv
  ·rw [if_pos (by omega), B6 (by decide)] at h3; omega
  ·rw [if_neg (by omega)] at h3 h4
   split at h3
   ·rename_i hc
    rw [if_pos hc] at h4
    rcases Bj p (n := 4097) (by decide) (by decide) with h5 | h5
    ·omega
    ·omega
   ·rename_i hc
    rw [if_neg hc] at h4
    have hle : n + v.cnt <= 4096 := by
     rcases Bj p (n := n + v.cnt) (by omega) (by omega) with h5 | h5 <;> omega
    obtain ⟨k1, k2⟩ := Kk p (n := n + v.cnt) (by omega) hle h3 h4
    refine ⟨λ w hw => ?_, by rw [ak]; omega⟩
    rcases List.mem_cons.1 hw with rfl | hw
    ·exact ⟨hv, by omega⟩
    ·exact k1 w hw
theorem App.ap {V V' : List Nat} {H H' : List fp} (h : Ap H V H' V') {l : List AV} {t : Tl} (k : App V l t) : App V' l t := by
 rcases k with k | ⟨h1, id, ver, e, h2⟩
 ·exact .inl k
 ·exact .inr ⟨h1, id, ver, e, h.v id ver h2⟩
theorem Fro.ap {F : Fz} {V V' : List Nat} {H H' : List fp} (h : Ap H V H' V') (k : Fro F H) : Fro F H' := λ i c e => h.h i _ (k i c e)
theorem G6 : ∀ {l : List Dt} {al : List AV}, Dt.RL l al -> jf al al = true
 | [], al, h => by rw [Dt.RL] at h; subst h; rw [jf]
 | x :: l, al, h => by
  rw [Dt.RL] at h
  obtain ⟨a, al', rfl, h3, h4⟩ := h
  rw [jf, Zs x h3, G6 h4]; rfl
structure TrI (H : List fp) (V : List Nat) (H' : List fp) (V' : List Nat) (p : List Vl) (nm : ByteArray) (j : Nat) (al : List AV) (tb : Tl) : Prop where
 rl : Dt.RL (Vl.trees (p.take j)) al
 b : H'[H.length + 1]? = some (.cells false [.str nm, .sl al tb])
 ap : Ap H V H' V'
 app : App V' al tb
 own : ∀ i ver, tb = .tl i ver -> V.length <= i
 a : H'[H.length]? = some (.cells false [.str ⟨#[]⟩, .sl [] .nil])
 len : V.length <= V'.length
theorem Nz (p : List Vl) (v : Vl) : Vl.trees (p ++ [v]) = Vl.trees p ++ [v.tree] := by
 induction p with
 | nil => rfl
 | cons x p ih => rw [bn, Vl.trees, ih, Vl.trees, bn]
theorem Jl {H H' H2 : List fp} {V V' V2 V3 : List Nat} {p : List Vl} {nm : ByteArray} {j : Nat} {al : List AV} {tb tb' : Tl} {r : AV} (hj : j < p.length) (h : TrI H V H' V' p nm j al tb) (hr : p[j].tree.R r) (hA : Ap H' V' H2 V2) (f2 : App V3 (al ++ [r]) tb') (f3 : Oth V2 tb V3 tb') :
  TrI H V (H2.set (H.length + 1) (.cells false [.str nm, .sl (al ++ [r]) tb'])) V3 p nm (j + 1) (al ++ [r]) tb' where
 rl := by rw [bj, aa hj, Option.toList_some, Nz]; exact RL.snoc h.rl hr
 b := gse (fy (hA.h _ _ h.b))
 ap := ⟨λ k o hk => by
  have := fy hk
  rw [gsn (by omega)]; exact hA.h _ _ (h.ap.h k o hk), λ i v hv => by
  have hlt := (List.getElem?_eq_some_iff.1 hv).1
  exact f3.2.1 i v (hA.v i v (h.ap.v i v hv)) λ ver e => by have := h.own i ver e; omega⟩
 app := f2
 own i ver e := by
  rcases f3.2.2 i ver e with ⟨v0, h1⟩ | h1
  ·exact h.own i v0 h1
  ·have h2 := h.len
   have h3 : V'.length <= V2.length := by
    rcases Nat.eq_zero_or_pos V'.length with h0 | h0
    ·omega
    ·have := hA.v (V'.length - 1) _ (aa (by omega))
     have := (List.getElem?_eq_some_iff.1 this).1
     omega
   omega
 a := by rw [gsn (by omega)]; exact hA.h _ _ h.a
 len := by
  have h2 := h.len
  have h3 : V'.length <= V2.length := by
   rcases Nat.eq_zero_or_pos V'.length with h0 | h0
   ·omega
   ·have := hA.v (V'.length - 1) _ (aa (by omega))
    have := (List.getElem?_eq_some_iff.1 this).1
    omega
  have := f3.1
  omega
theorem Pc {H H' : List fp} {V V' : List Nat} {p : List Vl} {nm : ByteArray} {j : Nat} {al : List AV} {tb : Tl} {kk : Int} (hj : p.length <= j) (h : TrI H V H' V' p nm j al tb) (hp : p.length <= 4096) :
  (Vl.ctor kk nm p).tree.R (.agg [.str nm, .sl al tb]) /\ Ap H V (H'.set H.length (.cells false [.str nm, .sl al tb])) V' := by
 have h1 := h.rl
 rw [au hj] at h1
 have h2 := RL.len h1
 rw [yz] at h2
 refine ⟨by rw [Vl.tree, Dt.R]; exact ⟨tb, al, rfl, h1, by omega⟩, λ k o hk => ?_, h.ap.v⟩
 have := fy hk
 rw [gsn (by omega)]; exact h.ap.h k o hk
theorem T8 {F : Fz} (v : Vl) : ∀ {H : List fp} {V : List Nat} {k : Nat}, Fro F H -> VR F v (.ptr k 0) -> 0 <= v.cnt -> v.cnt <= 4096 ->
  Rw 72 [.ptr k 0] ⟨H, V⟩ λ r s1 => v.tree.R r /\ Ap H V s1.H s1.T := by
 induction v using Vl.ind with
 | h v ih =>
 intro H V k hF hv h0 h1
 cases v with
 | ctor kk nm p =>
  have hc := VR.cells hF hv
  obtain ⟨pa, l, hc, hpa, hps⟩ := hc
  rw [Vl.cnt] at h0 h1
  obtain ⟨hkid, hpl⟩ := Kk p (n := 1) (by decide) (by decide) h0 h1
  have hpl : p.length <= 4096 := by omega
  have hcg := λ G : List fp => gz hc G
  have hone := hps.Yy
  have hlen := hps.len
  have hlb : j7 = 9223372036854775807 := rfl
  have jw : vy = 1073741824 := rfl
  have start : TrI H V (H ++ [.cells false [.str ⟨#[]⟩, .sl [] .nil], .cells false [.str nm, .sl [] .nil]]) V p nm 0 [] .nil := ⟨by rw [List.take_zero, Vl.trees, Dt.RL], by rw [af (by omega)]; simp, .app _ _ _, .inl ⟨rfl, rfl⟩, λ _ _ e => (by cases e), by rw [af (by omega)]; simp, dh _⟩
  refine lf pf72_is (dg rfl) ?_
  rcases id hpa with ⟨t, rfl⟩ | ⟨b, rfl, hb⟩
  ·simp only [pf72, ↓fh, wall, simprocAttr, wH, gq, fj, hcg]
   refine iq (λ j => l.length - j) (λ j E H' V' => ∃ al tb, j <= l.length /\ E 2 = .ptr H.length 0 /\ E 3 = .ptr (H.length + 1) 0 /\ E 14 = .sl l t /\ E 15 = .int (l.length : Nat) /\ E 16 = .int (j : Nat) /\ TrI H V H' V' p nm j al tb) ?_ 0 ⟨[], .nil, dj _, rfl, rfl, rfl, rfl, rfl, start⟩
   rintro j E H' V' ⟨al, tb, hj, e2, e3, e14, e15, e16, ⟨i1, i2, i3, i4, i5, i6, i7⟩⟩
   have hBl := fy i2
   rcases di j l.length with hlt | hge
   ·have hdec : decide ((j : Int) < l.length) = true := by simpa using hlt
    have hjp : j < p.length := by omega
    obtain ⟨a, g1, g2⟩ := hps.at (i := j) (aa hjp)
    obtain ⟨kc, rfl⟩ := g2.ptr
    obtain ⟨k1, k2⟩ := hkid p[j] (List.getElem_mem hjp)
    obtain ⟨r, ⟨H2, V2⟩, ⟨hr, hAp⟩, cr⟩ := (ih p[j] (List.getElem_mem hjp) (V := V') (hF.ap i3) g2 (by omega) k2).call rfl
    obtain ⟨c0, das, t0, rfl, _, _, _, _⟩ := hr.two
    have hst := hAp.h _ _ i2
    have heq : l6 (.sl al tb) (.sl al tb) = true := eqT _ _ (G6 i1)
    obtain ⟨m1, m2⟩ := RL.Lw i1
    have hal := RL.len i1
    rw [yz, b7] at hal
    obtain ⟨tb', V3, f1, f2, f3⟩ := s8 (es := 2) (xs := [.agg [.str c0, .sl das t0]]) (i4.ap hAp) (by simp only [ak, ao]; omega) m1 rfl
    simp only [↓fh, wall, simprocAttr, wH, e2, e3, e14, e15, e16, hdec, g1, hone, i2, hst, cr, f1, heq]
    exact j6 ⟨j + 1, by omega, _, tb', by omega, e2, e3, e14, e15, gw (by omega), Jl hjp ⟨i1, i2, i3, i4, i5, i6, i7⟩ hr hAp f2 f3⟩
   ·have hdec : decide ((j : Int) < l.length) = false := by simpa using hge
    have hA2 := λ x : fp => gse (x := x) (fy i6)
    simp only [↓fh, wall, simprocAttr, wH, gq, fj, e2, e3, e14, e15, e16, hdec, i2, i6, hA2]
    exact Pc (by omega) ⟨i1, i2, i3, i4, i5, i6, i7⟩ hpl
  ·simp only [pf72, ↓fh, wall, simprocAttr, wH, gq, fj, hcg]
   refine iq (λ j => l.length - j) (λ j E H' V' => ∃ al tb, j <= l.length /\ E 2 = .ptr H.length 0 /\ E 3 = .ptr (H.length + 1) 0 /\ E 14 = .bs b 0 l.length 1 false /\ E 15 = .int (l.length : Nat) /\ E 16 = .int (j : Nat) /\ TrI H V H' V' p nm j al tb) ?_ 0 ⟨[], .nil, dj _, rfl, rfl, rfl, rfl, rfl, start⟩
   rintro j E H' V' ⟨al, tb, hj, e2, e3, e14, e15, e16, ⟨i1, i2, i3, i4, i5, i6, i7⟩⟩
   have hBl := fy i2
   rcases di j l.length with hlt | hge
   ·have hdec : decide ((j : Int) < l.length) = true := by simpa using hlt
    have hjp : j < p.length := by omega
    obtain ⟨a, g1, g2⟩ := hps.at (i := j) (aa hjp)
    obtain ⟨kc, rfl⟩ := g2.ptr
    have hlt1 : ((j : Nat) : Int) < (l.length : Nat) := by omega
    have hhd : (l.drop (j * 1)).head? = some (.ptr kc 0) := by rw [Nat.mul_one, List.head?_drop]; exact g1
    have hHb := i3.h b _ (hF b l hb)
    obtain ⟨k1, k2⟩ := hkid p[j] (List.getElem_mem hjp)
    obtain ⟨r, ⟨H2, V2⟩, ⟨hr, hAp⟩, cr⟩ := (ih p[j] (List.getElem_mem hjp) (V := V') (hF.ap i3) g2 (by omega) k2).call rfl
    obtain ⟨c0, das, t0, rfl, _, _, _, _⟩ := hr.two
    have hst := hAp.h _ _ i2
    have heq : l6 (.sl al tb) (.sl al tb) = true := eqT _ _ (G6 i1)
    obtain ⟨m1, m2⟩ := RL.Lw i1
    have hal := RL.len i1
    rw [yz, b7] at hal
    obtain ⟨tb', V3, f1, f2, f3⟩ := s8 (es := 2) (xs := [.agg [.str c0, .sl das t0]]) (i4.ap hAp) (by simp only [ak, ao]; omega) m1 rfl
    simp only [↓fh, wall, simprocAttr, wH, e2, e3, e14, e15, e16, hdec, g1, hHb, hlt1, hhd, i2, hst, cr, f1, heq]
    exact j6 ⟨j + 1, by omega, _, tb', by omega, e2, e3, e14, e15, gw (by omega), Jl hjp ⟨i1, i2, i3, i4, i5, i6, i7⟩ hr hAp f2 f3⟩
   ·have hdec : decide ((j : Int) < l.length) = false := by simpa using hge
    have hA2 := λ x : fp => gse (x := x) (fy i6)
    simp only [↓fh, wall, simprocAttr, wH, gq, fj, e2, e3, e14, e15, e16, hdec, i2, i6, hA2]
    exact Pc (by omega) ⟨i1, i2, i3, i4, i5, i6, i7⟩ hpl
 | box => rw [Vl.cnt] at h0; exact absurd h0 (by decide)
 | clo _ _ => rw [Vl.cnt] at h0; exact absurd h0 (by decide)
 | pair _ _ => rw [Vl.cnt] at h0; exact absurd h0 (by decide)
end Go.Proofs.Eng
namespace Go.Proofs.Eng
open Go Go.Proofs
set_option maxRecDepth 100000
set_option maxHeartbeats 16000000
def Ms.Ey (s : Ms) : Int := if s.halted = true /\ s.err = 0 then (match s.stack with
 | [] => 27
 | v :: _ => if v.cnt < 0 then 10 else if 4096 < v.cnt then 5 else 0) else 27
def Ms.Qa (s : Ms) : Dt := if s.Ey = 0 then (match s.stack with
 | [] => .mk ⟨#[]⟩ []
 | v :: _ => v.tree) else .mk ⟨#[]⟩ []
theorem Ds : (Dt.mk ⟨#[]⟩ []).R (.agg [.str ⟨#[]⟩, .sl [] .nil]) := by rw [Dt.R]; exact ⟨.nil, [], rfl, by rw [Dt.RL], by simp⟩
section
variable {Z : List Int} {F : Fz} {H : List fp} {V : List Nat} {m : Nat} {sa fa : AV} {c : Cd} {s : Ms}
theorem MR.ap (hM : MR F H m sa fa c s) (hF : Fro F H) {H' : List fp} {V' : List Nat} (h : Ap H V H' V') : MR F H' m sa fa c s /\ Fro F H' := by
 obtain ⟨Bl, tb, t2, t3, ea, b1, b2, b3⟩ := hM.sw
 have hk : ∀ k : Nat, k < H.length -> H'[k]? = H[k]? := λ k hk => by
  rw [aa hk]; exact h.h k _ (aa hk)
 exact ⟨⟨⟨Bl, tb, t2, t3, ea, h.h _ _ b1, b2, b3⟩, hM.st.jg λ b e => hk b (hM.st.lt e), hM.fr.jg λ b e => hk b (hM.fr.lt e), hM.fz, hM.d1, hM.d2⟩, hF.ap h⟩
theorem Ek (hM : MR F H m sa fa c s) (hF : Fro F H) (hS : Safe c Z s) (hb : s.stack.length <= 1000000) : Rw 28 [.ptr m 0] ⟨H, V⟩ λ v s1 => Ap H V s1.H s1.T /\ ∃ d, v = .tup [d, .int s.Ey] /\ s.Qa.R d := by
 obtain ⟨Bl, tb, t2, t3, ea, b1, b2, b3⟩ := hM.sw
 have hml := fy b1
 simp only [mcs] at b1
 refine lf pf28_is (dg rfl) ?_
 have hgm := λ G : List fp => (gal (G := G) hml).trans b1
 cases hh : s.halted
 ·have e1 : s.Ey = 27 := by rw [Ms.Ey, if_neg (by rw [hh]; simp)]
  rw [hh] at hgm
  simp only [pf28, ↓fh, wall, simprocAttr, wH, gq, fj, hgm]
  refine ⟨.app _ _ _, _, by rw [e1], ?_⟩
  rw [Ms.Qa, if_neg (by rw [e1]; decide)]; exact Ds
 rw [hh] at hgm
 cases he : (s.err != 0)
 ·have he0 : s.err = 0 := by simpa [bne] using he
  obtain ⟨hne, hvs⟩ : s.stack ≠ [] /\ kj c Z s.stack := by
   rcases hS with ⟨h, _⟩ | ⟨_, _, h⟩ | h
   ·exact absurd he0 h
   ·exact h
   ·rw [h.h] at hh; cases hh
  rcases hM.st with ⟨rfl, hn⟩ | ⟨b, cs, rfl, h1, h2, h3⟩
  ·exact absurd hn hne
  obtain ⟨v, st, hs⟩ : ∃ v st, s.stack = v :: st := by
   cases h : s.stack with
   | nil => exact absurd h hne
   | cons v st => exact ⟨v, st, rfl⟩
  have hok : VOK c Z v := by rw [hs, kj] at hvs; exact hvs.1
  have hL : s.stack.length = st.length + 1 := by rw [hs]; rfl
  rw [hL] at hgm h2 h3 hb
  rw [hs, List.reverse_cons] at h3
  obtain ⟨_, k2⟩ := VRs.split h3
  rw [List.length_reverse, VRs] at k2
  obtain ⟨a, l', e, hv, _⟩ := k2
  obtain ⟨ka, rfl⟩ := hv.ptr
  have hget : cs[st.length]? = some (.ptr ka 0) := by
   have := congrArg (λ l => l[0]?) e
   simp only [ba, bc, Nat.add_zero, bw] at this
   rw [if_pos (by omega)] at this; exact this
  have hw : IntKind.i64.wrap (((st.length + 1 : Nat) : Int) - 1) = (st.length : Nat) := (jd (by unfold mg; omega)).trans (by omega)
  have hlt1 : ((st.length : Nat) : Int) < (st.length + 1 : Nat) := by omega
  have hhd : (cs.drop (st.length * 1)).head? = some (.ptr ka 0) := by rw [Nat.mul_one, List.head?_drop]; exact hget
  have hz : (((st.length + 1 : Nat) : Int) == 0) = false := by simp; omega
  have hgb := λ G : List fp => (gal (G := G) (fy h1)).trans h1
  obtain ⟨A, hA⟩ : ∃ A, A = fp.cells false [.str ⟨#[]⟩, .sl [] .nil] := ⟨_, rfl⟩
  have hap : Ap H V (H ++ [A, .map []]) V := .app _ _ _
  have hmi : (H ++ [A, .map []])[H.length + 1]? = some (.map []) := by rw [af (by omega)]; simp
  obtain ⟨_, _, ⟨rfl, es', rfl, hS'⟩, cr⟩ := (Qi (V := V) v hok (hF.ap hap) hv hmi (λ e he => by cases he)).call rfl
  have hset : (H ++ [A, .map []]).set (H.length + 1) (.map es') = H ++ [A, .map es'] := by rw [Dd]; rfl
  rw [hset] at cr
  have eE : s.Ey = if v.cnt < 0 then 10 else if 4096 < v.cnt then 5 else 0 := by rw [Ms.Ey, if_pos ⟨hh, he0⟩, hs]
  subst hA
  cases c1 : decide (v.cnt < 0)
  ·cases c2 : decide (v.cnt > 4096)
   ·have h0 : 0 <= v.cnt := by simpa using c1
    have h4 : v.cnt <= 4096 := by simpa using c2
    obtain ⟨r, ⟨H3, V3⟩, ⟨hr, hAp⟩, ct⟩ := (T8 (V := V) v (hF.ap (.app H V [.cells false [.str ⟨#[]⟩, .sl [] .nil], .map es'])) hv h0 h4).call rfl
    obtain ⟨c0, das, t0, rfl, _, _, _, _⟩ := hr.two
    have hA3 := hAp.h H.length (.cells false [.str ⟨#[]⟩, .sl [] .nil]) (by rw [af (by omega)]; simp)
    have hA4 := λ x : fp => gse (x := x) (fy hA3)
    have e0 : s.Ey = 0 := by rw [eE, if_neg (by omega), if_neg (by omega)]
    simp only [pf28, ↓fh, wall, simprocAttr, wH, gq, fj, hgm, he, hz, hw, hlt1, hgb, hhd, cr, c1, c2, ct, hA3, hA4]
    refine ⟨⟨λ k o hk => ?_, λ i v hv => hAp.v i v hv⟩, _, by rw [e0], ?_⟩
    ·have := fy hk
     rw [gsn (by omega)]; exact hAp.h _ _ (gz hk _)
    ·rw [Ms.Qa, if_pos e0, hs]; exact hr
   ·have e1 : s.Ey = 5 := by rw [eE, if_neg (by simpa using c1), if_pos (by simpa using c2)]
    simp only [pf28, ↓fh, wall, simprocAttr, wH, gq, fj, hgm, he, hz, hw, hlt1, hgb, hhd, cr, c1, c2]
    refine ⟨.app _ _ _, _, by rw [e1], ?_⟩
    rw [Ms.Qa, if_neg (by rw [e1]; decide)]; exact Ds
  ·have e1 : s.Ey = 10 := by rw [eE, if_pos (by simpa using c1)]
   simp only [pf28, ↓fh, wall, simprocAttr, wH, gq, fj, hgm, he, hz, hw, hlt1, hgb, hhd, cr, c1]
   refine ⟨.app _ _ _, _, by rw [e1], ?_⟩
   rw [Ms.Qa, if_neg (by rw [e1]; decide)]; exact Ds
 ·have e1 : s.Ey = 27 := by rw [Ms.Ey, if_neg (by simp [bne] at he; simp [he])]
  simp only [pf28, ↓fh, wall, simprocAttr, wH, gq, fj, hgm, he]
  refine ⟨.app _ _ _, _, by rw [e1], ?_⟩
  rw [Ms.Qa, if_neg (by rw [e1]; decide)]; exact Ds
end
theorem J4 (e : Dt) : ∀ {a b : AV} {H : List fp} {V : List Nat}, e.R a -> e.R b -> Rw 34 [a, b] ⟨H, V⟩ λ r s1 => r = .bool true /\ Ap H V s1.H s1.T := by
 induction e using Dt.ind with
 | h n kids ih =>
 intro a b H V h h'
 rw [Dt.R] at h h'
 obtain ⟨t2, kas, rfl, g6, g5⟩ := h
 obtain ⟨u2, kbs, rfl, q6, q5⟩ := h'
 have hl1 := RL.len g6
 have hl2 := RL.len q6
 have hlen : kbs.length = kas.length := by omega
 have hlb : j7 = 9223372036854775807 := rfl
 have hall := (RL.Lw g6).1
 have hall2 := (RL.Lw q6).1
 refine lf pf34_is (dg rfl) ?_
 simp only [pf34, ↓fh, wall, simprocAttr, wH, gq, fj, hlen]
 refine iq (λ j => kas.length - j) (λ j E H' V' => E 2 = .ptr H.length 0 /\ E 3 = .ptr (H.length + 1) 0 /\ E 5 = .int (j : Nat) /\ j <= kas.length /\ Ap (H ++ [.cells false [.str n, .sl kas t2], .cells false [.str n, .sl kbs u2]]) V H' V') ?_ 0 ⟨rfl, rfl, rfl, dj _, .refl _ _⟩
 rintro j E H' V' ⟨e2, e3, e5, hj, hA⟩
 have b1 := hA.h H.length _ (by rw [s7]; rfl)
 have b2 := hA.h (H.length + 1) _ (by rw [ue]; rfl)
 rcases di j kas.length with hlt | hge
 ·have hjk : j < kids.length := by omega
  obtain ⟨x, d1, d2⟩ := RL.at g6 (i := j) (aa hjk)
  obtain ⟨y, f1, f2⟩ := RL.at q6 (i := j) (aa hjk)
  have hdec : decide ((j : Int) < kas.length) = true := by simpa using hlt
  obtain ⟨_, ⟨H2, V2⟩, ⟨rfl, hA2⟩, cr⟩ := (ih kids[j] (List.getElem_mem hjk) (H := H') (V := V') d2 f2).call rfl
  obtain ⟨c0, das, t0, rfl, _, _, _, _⟩ := d2.two
  obtain ⟨c0', das', t0', rfl, _, _, _, _⟩ := f2.two
  simp only [↓fh, wall, simprocAttr, wH, e2, e3, e5, hdec, b1, b2, d1, f1, hall, hall2, cr]
  exact j6 ⟨j + 1, by omega, e2, e3, gw (by omega), by omega, hA.trans hA2⟩
 ·have hdec : decide ((j : Int) < kas.length) = false := by simpa using hge
  simp only [↓fh, wall, simprocAttr, wH, gq, fj, e2, e3, e5, hdec, b1, b2]
  exact (Ap.app H V _).trans hA
end Go.Proofs.Eng
namespace Go.Proofs.Eng
open Go Go.Proofs Go.RowKit
set_option maxRecDepth 100000
def O6 : Option (jt × ASt) -> Bool
 | some (.ret (.v (.bool true)), _) => true
 | _ => false
theorem Rd : O6 (ql md pfs 200 11 [] ⟨[], []⟩) = true := by kernel_rfl
theorem Rr : Out md pfs 11 [] (· = .bool true) λ _ => False := by
 have h := Rd
 cases hc : ql md pfs 200 11 [] ⟨[], []⟩ with
 | none => rw [hc] at h; cases h
 | some r =>
  obtain ⟨o, s⟩ := r
  rw [hc] at h
  unfold O6 at h
  split at h
  ·rename_i s' e
   simp only [fc, fe] at e
   obtain ⟨rfl, rfl⟩ := e
   exact ⟨_, _, .ret (.bool true), Sl hc, rfl, rfl⟩
  ·cases h
end Go.Proofs.Eng
namespace Go.Proofs.Eng
open Go Go.Proofs
set_option maxRecDepth 100000
set_option maxHeartbeats 16000000
theorem MR.frame {F F' : Fz} {H H' : List fp} {U U' : Nat -> Prop} {n : Nat} {sb fb : AV} {c : Cd} {t : Ms} (hN : MR F H n sb fb c t) (hx : Nx F H U F' H' U') (hd : ∀ k, Own n sb fb k -> ¬ U k) :
  MR F' H' n sb fb c t /\ ∀ k, Own n sb fb k -> ¬ U' k := by
 obtain ⟨Bl, tb, t2, t3, ea, b1, b2, b3⟩ := hN.sw
 have hk : ∀ k : Nat, Own n sb fb k -> H'[k]? = H[k]? := λ k h => hx.jg k (hN.lt h) (hd k h)
 refine ⟨⟨⟨Bl, tb, t2, t3, ea, (hk n (.inl rfl)).trans b1, b2, ER.mono hx.le _ _ b3⟩, (hN.st.jg λ b e => hk b (.inr (.inl e))).mono hx.le, (hN.fr.jg λ b e => hk b (.inr (.inr e))).mono hx.le, λ k h => ?_, hN.d1, hN.d2⟩, λ k h hu => ?_⟩
 ·have h1 := hN.fz k h
  have h2 := hN.lt h
  cases hf : F' k with
  | none => rfl
  | some l =>
   rcases hx.new k (by rw [hf]; simp) with h3 | h3
   ·exact absurd h1 h3
   ·omega
 ·rcases hx.own k hu with h1 | h1
  ·exact hd k h h1
  ·have := hN.lt h; omega
theorem Tm {Z : List Int} {F : Fz} {H : List fp} {V : List Nat} {m n : Nat} {sa fa sb fb : AV} {c : Cd} {s : Ms} (hM : MR F H m sa fa c s) (hN : MR F H n sb fb c s) (hF : Fro F H) (hS : Safe c Z s) (hb : s.stack.length <= 1000000) :
  Rw 20 [.ptr m 0, .ptr n 0] ⟨H, V⟩ λ v s1 => v = .bool true /\ Ap H V s1.H s1.T := by
 obtain ⟨_, ⟨H1, V1⟩, ⟨hA1, d1, rfl, hd1⟩, c1⟩ := (Ek (V := V) hM hF hS hb).call rfl
 obtain ⟨a1, das1, u1, rfl, _⟩ := hd1.two
 obtain ⟨D1, hD1⟩ : ∃ D, D = fp.cells false [.str a1, .sl das1 u1] := ⟨_, rfl⟩
 have hA2 : Ap H V (H1 ++ [D1]) V1 := hA1.trans (.app _ _ _)
 obtain ⟨hM2, hF2⟩ := hM.ap hF hA2
 obtain ⟨hN2, _⟩ := hN.ap hF hA2
 obtain ⟨_, ⟨H3, V3⟩, ⟨hA3, d2, rfl, hd2⟩, c2⟩ := (Ek (V := V1) hN2 hF2 hS hb).call rfl
 obtain ⟨a2, das2, u2, rfl, _⟩ := hd2.two
 obtain ⟨D2, hD2⟩ : ∃ D, D = fp.cells false [.str a2, .sl das2 u2] := ⟨_, rfl⟩
 have hA4 : Ap (H1 ++ [D1]) V1 (H3 ++ [D2]) V3 := hA3.trans (.app _ _ _)
 obtain ⟨hM4, hF4⟩ := hM2.ap hF2 hA4
 obtain ⟨hN4, _⟩ := hN2.ap hF2 hA4
 have l1 : (H3 ++ [D2])[H1.length]? = some D1 := hA4.h _ _ (by rw [s7]; rfl)
 obtain ⟨_, _, ⟨rfl, rfl⟩, cs1⟩ := (Ag (V := V3) hM4).call rfl
 obtain ⟨_, _, ⟨rfl, rfl⟩, cs2⟩ := (Ag (V := V3) hN4).call rfl
 obtain ⟨_, _, ⟨rfl, rfl⟩, cd1⟩ := (Gp (V := V3) hM4).call rfl
 obtain ⟨_, _, ⟨rfl, rfl⟩, cd2⟩ := (Gp (V := V3) hN4).call rfl
 obtain ⟨_, ⟨H5, V5⟩, ⟨rfl, hA5⟩, cq⟩ := (J4 _ (H := H3 ++ [D2]) (V := V3) hd1 hd2).call rfl
 subst hD1 hD2
 refine lf pf20_is (dg rfl) ?_
 simp only [pf20, ↓fh, wall, simprocAttr, wH, gq, fj, c1, c2, cs1, cs2, cd1, cd2, l1, cq]
 exact hA2.trans (hA4.trans hA5)
end Go.Proofs.Eng
namespace Go.Proofs.Eng
open Go Go.Proofs
set_option maxRecDepth 100000
set_option maxHeartbeats 16000000
def u8s (l : List Nat) : List AV := l.map λ i => .v (.int .u8 (i : Nat))
theorem a22 {l : List Nat} {j : Nat} (h : j < l.length) : (u8s l)[j]? = some (.v (.int .u8 (l[j] : Nat))) := by rw [u8s, bh, aa h]; rfl
theorem Yf (l : List Nat) : ((u8s l).all λ x => x.cells.length == 1) = true := by
 rw [aw]; intro x hx
 obtain ⟨b, _, rfl⟩ := List.mem_map.1 hx; rfl
theorem zd (l : List Nat) : (u8s l).length = l.length := by simp [u8s]
theorem U7 : ∀ {l : List Nat}, (∀ x ∈ l, x < 256) -> l.sum <= 256 * l.length
 | [], _ => dh _
 | x :: l, h => by
  have h1 := h x (by simp)
  have h2 := U7 (l := l) λ y hy => h y (by simp [hy])
  rw [List.sum_cons, ak]; omega
theorem Nh : ∀ (l : List Nat) (j : Nat), (l.take j).sum <= l.sum
 | [], j => by simp
 | x :: l, 0 => by simp
 | x :: l, j + 1 => by rw [List.take_succ_cons, List.sum_cons, List.sum_cons]; have := Nh l j; omega
theorem Z3 {p : Pr} {pa : AV} (hp : p.Is pa) : l6 pa pa = true := by
 obtain ⟨gas, tg, cp, rfl, h1, h2, h3, h4, _⟩ := hp
 have key : ∀ (l : List Gl) (al : List AV), LIs I3 l al -> jf al al = true := by
  intro l
  induction l with
  | nil => intro al h; match al, h with | [], _ => rw [jf]
  | cons x l ih =>
   intro al h
   match al, h with
   | a :: al, ⟨⟨c, e, _, g1⟩, g2⟩ =>
    subst e
    have := a3q _ g1
    rw [l6] at this
    rw [jf, l6, jf, eqS, this, ih al g2]; rfl
 have := a3q _ h4
 rw [l6] at this
 rw [l6, jf, eqT _ _ (key _ _ h3), this]; rfl
theorem N4 {p : Pr} {pa : AV} (hp : p.Is pa) (hs : szL p.es <= 1048576) {ul : List Nat} {t : Tl} (hu : ∀ x ∈ ul, x < 256) (hul : ul.length <= j7) : Out md pfs 4 [pa, .sl (u8s ul) t] (· = .bool true) λ _ => False := by
 have hpu : ga [pa] = true := by simp [ft, gg, vv hp]
 obtain ⟨_, rfl, cf⟩ := (Ft hp hs).call rfl hpu
 obtain ⟨_, rfl, cc⟩ := (Mr hp).call rfl hpu
 obtain ⟨_, rfl, ca⟩ := Rr.call rfl rfl
 obtain ⟨gas, tg, cp, rfl, h1, h2, h3, h4, h5, h6, h7, h8, h9, h10⟩ := id hp
 have hlb : j7 = 9223372036854775807 := rfl
 refine iu pf4_is (dg rfl) ?_
 cases hf : p.Nl
 ·rw [hf] at cf
  simp only [pf4, ↓fh, wall, simprocAttr, wH, h5, h6, h7, cf, ca]
 rw [hf] at cf
 cases hz : (p.check == 0)
 ·have hne : (p.check != 0) = true := by simp [bne, hz]
  simp only [pf4, ↓fh, wall, simprocAttr, wH, h5, h6, h7, cf, cc, ca, hne]
 have hz' : p.check = 0 := by simpa using hz
 rw [hz'] at cc
 cases h12 : decide (((ul.length : Nat) : Int) > 12)
 rotate_left
 ·simp only [pf4, ↓fh, wall, simprocAttr, wH, h5, h6, h7, cf, cc, ca, zd, h12]
 have hle12 : ul.length <= 12 := by simp at h12; omega
 have hsum := U7 hu
 obtain ⟨hP, b1, b2, b3, b4, b5, b6⟩ := P3 hf hz'
 obtain ⟨Z, hC⟩ := Lm b3
 have hsz : (lj p).bd (lj p).bl.length <= 400000 := by rw [a6i]; omega
 obtain ⟨_, ⟨H1, V1⟩, ⟨m, rfl, _, hA1, hM⟩, cm⟩ := (Cy hp hf hz' [.cells false (.sl gas tg :: cp)] []).call rfl
 have hF0 : Fro (λ _ => none) H1 := λ _ _ h => by cases h
 obtain ⟨_, ⟨H2, V2⟩, ⟨n, rfl, hn, hA2, hN⟩, cm2⟩ := (Cy hp hf hz' H1 V1).call rfl
 obtain ⟨hM2, hF2⟩ := hM.ap hF0 hA2
 have hmn : m < H1.length := by
  obtain ⟨_, _, _, _, _, b, _⟩ := hM.sw
  exact fy b
 have hb0 : H1[0]? = some (.cells false (.sl gas tg :: cp)) := hA1.h 0 _ rfl
 simp only [pf4, ↓fh, wall, simprocAttr, wH, h5, h6, h7, cf, cc, ca, zd, h12, cm, cm2, hb0]
 refine ⟨Z3 hp, ?_⟩
 refine iq (λ j => ul.length - j) (λ j E H' V' => ∃ F' sa fa s, j <= ul.length /\ E 1 = .sl (u8s ul) t /\ E 5 = .ptr m 0 /\ E 6 = .ptr n 0 /\ E 7 = .int ((ul.take j).sum : Nat) /\ E 10 = .int (j : Nat) /\ (0 < j -> E 8 = .bool (s.halted && s.err == 0) /\ E 9 = .int s.err) /\ (∃ x, E 8 = .bool x) /\ (∃ x, E 9 = .int x) /\
  MR F' H' m sa fa (lj p) s /\ Fro F' H' /\ MR F' H' n (.sl [] .nil) (.sl [] .nil) (lj p) Ms.start /\ (∀ k, Own n (.sl [] .nil) (.sl [] .nil) k -> ¬ Own m sa fa k) /\ s = Ms.start.run (lj p) (ul.take j).sum) ?_ 0
  ⟨_, _, _, _, dj _, rfl, rfl, rfl, rfl, rfl, λ h => absurd h (by decide), ⟨_, rfl⟩, ⟨_, rfl⟩, hM2, hF2, hN, λ k h1 h2 => ?_, rfl⟩
 rotate_left
 ·rcases h1 with rfl | h1 | h1
  ·rcases h2 with h2 | h2 | h2
   ·omega
   ·cases h2
   ·cases h2
  ·cases h1
  ·cases h1
 rintro j E H' V' ⟨F', sa, fa, s, hj, e1, e5, e6, e7, e10, e89, ⟨x8, e8⟩, ⟨x9, e9⟩, hM', hF', hN', hd', hrun⟩
 have htk := Nh ul j
 obtain ⟨q1, q2, q3, q4⟩ := K3 hC (ul.take j).sum (Eb hC) (by show 0 + _ <= _; omega)
 rw [<- hrun] at q1 q2 q3 q4
 rw [show Ms.start.steps = 0 from rfl, dk] at q2 q3
 rw [show Ms.start.stack.length = 0 from rfl, dk] at q4
 rcases di j ul.length with hlt | hge
 ·have hdec : decide ((j : Int) < ul.length) = true := by simpa using hlt
  have hx := hu ul[j] (List.getElem_mem hlt)
  have hg := a22 hlt
  have hone := Yf ul
  have hst : (ul.take (j + 1)).sum = (ul.take j).sum + ul[j] := by
   rw [bj, aa hlt, List.sum_append]; simp
  have htk2 := Nh ul (j + 1)
  obtain ⟨_, ⟨H3, V3⟩, ⟨F3, sa3, fa3, s3, ⟨hs3, rfl⟩, hM3, hF3, hx3⟩, cr⟩ := (Oe (V := V') hC hsz ul[j] hM' hF' q1 (by omega) (by omega)).call rfl
  obtain ⟨hN3, hd3⟩ := hN'.frame hx3 hd'
  have hwx : IntKind.i64.wrap ((ul[j] : Nat) : Int) = (ul[j] : Nat) := jd (by unfold mg; omega)
  have hws : IntKind.i64.wrap ((((ul.take j).sum : Nat) : Int) + ((ul[j] : Nat) : Int)) = (((ul.take (j + 1)).sum : Nat) : Int) := by rw [hst]; exact (jd (by unfold mg; omega)).trans (by omega)
  simp only [↓fh, wall, simprocAttr, wH, e1, e5, e6, e7, e10, hdec, zd, hg, hone, hwx, hws, cr]
  exact j6 ⟨j + 1, by omega, _, _, _, s3, by omega, e1, e5, e6, rfl, gw (by omega), λ _ => ⟨rfl, rfl⟩, ⟨_, rfl⟩, ⟨_, rfl⟩, hM3, hF3, hN3, hd3, by rw [hs3, hrun, hst, Ox]⟩
 ·have hdec : decide ((j : Int) < ul.length) = false := by simpa using hge
  obtain rfl : j = ul.length := by omega
  rw [List.take_length] at e7 hrun q2 q3 q4 htk
  obtain ⟨_, ⟨H4, V4⟩, ⟨F4, sb, fb, s4, ⟨hs4, rfl⟩, hN4, hF4, hx4⟩, cn⟩ := (Oe (V := V') hC hsz ul.sum hN' hF' (Eb hC) (by show 0 + _ <= _; omega) (by show 0 + _ <= _; omega)).call rfl
  obtain ⟨hM4, _⟩ := hM'.frame hx4 λ k h1 h2 => hd' k h2 h1
  obtain rfl : s4 = s := by rw [hs4, hrun]
  obtain ⟨_, ⟨H5, V5⟩, ⟨rfl, hA5⟩, cq⟩ := (Tm (V := V4) hM4 hN4 hF4 q1 (by omega)).call rfl
  obtain ⟨hN5, _⟩ := hN4.ap hF4 hA5
  obtain ⟨_, _, ⟨rfl, rfl⟩, cs⟩ := (Ag (V := V5) hN5).call rfl
  have hle : decide (((s4.steps : Nat) : Int) <= ((ul.sum : Nat) : Int)) = true := by simpa using q2
  obtain ⟨x, hx⟩ : ∃ x, x = (s4.halted && s4.err == 0) := ⟨_, rfl⟩
  rw [<- hx] at cn e89
  cases hz0 : (((ul.length : Nat) : Int) == 0)
  ·obtain ⟨e8', e9'⟩ := e89 (Nat.pos_of_ne_zero λ e => by rw [e] at hz0; exact absurd hz0 (by decide))
   cases x <;> simp only [↓fh, wall, simprocAttr, wH, e1, e5, e6, e7, e8', e9', e10, hdec, zd, hz0, cn, ca, cq, cs, hle]
  ·cases x <;> simp only [↓fh, wall, simprocAttr, wH, e1, e5, e6, e7, e8, e9, e10, hdec, zd, hz0, cn, ca, cq, cs, hle]
end Go.Proofs.Eng
