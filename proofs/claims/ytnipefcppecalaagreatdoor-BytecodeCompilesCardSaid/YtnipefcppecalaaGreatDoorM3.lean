/- Compiled code is correct: plain law. No conditions beyond those in the theorems. -/
import Derived.Test.YtnipefcppecalaaGreatDoorB5
set_option linter.all false
set_option linter.deprecated false
set_option linter.unnecessarySimpa false
set_option linter.unusedVariables false
set_option linter.unusedSimpArgs false
set_option linter.defProp false
namespace Go.Proofs.Eng
open Go Go.Proofs
set_option maxRecDepth 100000
mutual
def Ex.small : Int → Int → Ex → Option Int
 | nodes, depth, .mk _ _ n s kids => if decide (nodes ≤ 0) = true then none else if decide (depth ≤ 0) = true then none else if decide ((n.size : Int) > 80) = true then none else if decide ((s.length : Int) > 40) = true then none else smallL (w64 (depth - 1)) (w64 (nodes - 1)) kids
def smallL (depth : Int) : Int → List Ex → Option Int
 | nodes, [] => some nodes
 | nodes, e :: es => match Ex.small nodes depth e with
  | none => none
  | some m => smallL depth m es
end
def smallAV : Option Int → AV
 | none => .tup [.int 0, .bool false]
 | some m => .tup [.int m, .bool true]
theorem small_ret (e : Ex) : ∀ {a nodes depth}, e.Is a → Out md pfs 18 [a, .int nodes, .int depth] (· = smallAV (e.small nodes depth)) fun _ => False := by
 induction e using Ex.ind with
 | h k i n s kids ih =>
 intro a nodes depth h
 obtain ⟨t1, t2, kas, rfl, g1, g2, g3, g4, g5, g6⟩ := h.opn
 refine out_of pf18_is (Nat.le_of_ble_eq_true rfl) ?_
 simp only [Ex.small]
 cases c1 : decide (nodes ≤ 0)
 ·cases c2 : decide (depth ≤ 0)
  ·cases c3 : decide ((n.size : Int) > 80)
   ·cases c4 : decide ((s.length : Int) > 40)
    ·simp only [pf18, ↓wpre, wall, simprocAttr, c1, c2, c3, c4, ints_len]
     refine W_loopE (fun j => kas.length - j) (fun j E H T => ∃ G nd, H = .cells false [.int k, .int i, .str n, .sl (ints s) t1, .sl kas t2] :: G ∧ E 1 = .int nd ∧ E 2 = .int depth ∧ E 33 = .sl kas t2 ∧ E 34 = .int kas.length ∧ E 35 = .int j ∧ j ≤ kas.length ∧ smallL (w64 (depth - 1)) nd (kids.drop j) = smallL (w64 (depth - 1)) (w64 (nodes - 1)) kids) ?_ 0 ⟨_, _, rfl, rfl, rfl, rfl, rfl, rfl, Nat.zero_le _, rfl⟩
     rintro j E H T ⟨G, nd, rfl, e1, e2, e33, e34, e35, hj, hn⟩
     rcases Nat.lt_or_ge j kas.length with hlt | hge
     ·obtain ⟨y, c, d0, d1, d3, d4, d5, d6, d7, d8⟩ := g6.get exAgg hlt
      have hdec : decide ((j : Int) < kas.length) = true := by simpa using hlt
      have hall := g6.all exAgg
      obtain ⟨_, rfl, cr⟩ := (ih y d3 (nodes := nd) (depth := w64 (depth - 1)) d8).call rfl (by simp [pvs_cons, pvs_nil, pv_v, exPure _ d8])
      rw [d1, smallL] at hn
      cases hs : Ex.small nd (w64 (depth - 1)) y with
      | none =>
       rw [hs] at cr hn
       simp only [smallAV] at cr
       simp only [↓wpre, wall, simprocAttr, e1, e2, e33, e34, e35, hdec, d4, d5, d6, d7, hall, cr]
       rw [← hn]; rfl
      | some m =>
       rw [hs] at cr hn
       simp only [smallAV] at cr
       simp only [↓wpre, wall, simprocAttr, e1, e2, e33, e34, e35, hdec, d4, d5, d6, d7, hall, cr]
       exact EQ_in ⟨j + 1, by omega, _, m, rfl, rfl, e2, e33, e34, next_ixv (by omega), by omega, hn⟩
     ·have hdec : decide ((j : Int) < kas.length) = false := by simpa using hge
      rw [List.drop_eq_nil_of_le (by rw [← g6.len]; omega), smallL] at hn
      simp only [↓wpre, wall, simprocAttr, e1, e2, e33, e34, e35, hdec]
      rw [← hn]; rfl
    ·simp only [pf18, ↓wpre, wall, simprocAttr, c1, c2, c3, c4, ints_len]; rfl
   ·simp only [pf18, ↓wpre, wall, simprocAttr, c1, c2, c3]; rfl
  ·simp only [pf18, ↓wpre, wall, simprocAttr, c1, c2]; rfl
 ·simp only [pf18, ↓wpre, wall, simprocAttr, c1]; rfl
def Gl.few (g : Gl) : Bool := (g.2.small 60 60).isSome && decide ((g.1.size : Int) ≤ 80)
def Pr.few (p : Pr) : Bool := (p.main.small 60 60).isSome && p.gs.all Gl.few && decide ((p.gs.length : Int) ≤ 6)
theorem Few_ret {p : Pr} {pa : AV} (hp : p.Is pa) : Out md pfs 5 [pa] (· = .bool p.few) fun _ => False := by
 obtain ⟨gas, tg, c, rfl, h1, h2, h3, h4, h5, h6, h7, h8, h9, h10⟩ := id hp
 refine out_of pf5_is (Nat.le_of_ble_eq_true rfl) ?_
 have hl := h3.len
 obtain ⟨_, rfl, cm⟩ := (small_ret p.main (nodes := 60) (depth := 60) h4).call rfl (by simp [pvs_cons, pvs_nil, pv_v, exPure _ h4])
 have hsm : ∀ o : Option Int, ∃ x, smallAV o = .tup [.int x, .bool o.isSome] := fun o => by cases o <;> exact ⟨_, rfl⟩
 obtain ⟨x0, hx0⟩ := hsm (p.main.small 60 60)
 rw [hx0] at cm
 simp only [pf5, ↓wpre, wall, simprocAttr, h5, h6, cm]
 refine W_loopE (fun j => gas.length - j) (fun j E H T => ∃ G, H = .cells false (.sl gas tg :: c) :: G ∧ E 1 = .ptr 0 0 ∧ E 4 = .bool ((p.main.small 60 60).isSome && (p.gs.take j).all Gl.few) ∧ E 16 = .sl gas tg ∧ E 17 = .int gas.length ∧ E 18 = .int j ∧ j ≤ gas.length) ?_ 0 ⟨_, rfl, rfl, by simp [updE], rfl, rfl, rfl, Nat.zero_le _⟩
 rintro j E H T ⟨G, rfl, e1, e4, e16, e17, e18, hj⟩
 generalize hb : ((p.main.small 60 60).isSome && (p.gs.take j).all Gl.few) = b at e4
 rcases Nat.lt_or_ge j gas.length with hlt | hge
 ·obtain ⟨g, _, d0, d1, d3, d4, ⟨c2, rfl, hns, hg⟩⟩ := h3.at hlt
  obtain ⟨c3, e, b1, b2⟩ := exAgg.cells hg
  cases e
  have b3 : c2.take 5 = c2 := List.take_of_length_le (by omega)
  have hdec : decide ((j : Int) < gas.length) = true := by simpa using hlt
  obtain ⟨_, rfl, cg⟩ := (small_ret g.2 (nodes := 60) (depth := 60) hg).call rfl (by simp [pvs_cons, pvs_nil, pv_v, exPure _ hg])
  obtain ⟨x1, hx1⟩ := hsm (g.2.small 60 60)
  rw [hx1] at cg
  have hres : ((p.main.small 60 60).isSome && (p.gs.take (j + 1)).all Gl.few) = (b && ((g.2.small 60 60).isSome && decide ((g.1.size : Int) ≤ 80))) := by
   rw [List.take_add_one, d0, ← hb]; simp [List.all_append, Gl.few, Bool.and_assoc]
  cases b <;> cases c1 : (g.2.small 60 60).isSome <;> cases c2 : decide ((g.1.size : Int) ≤ 80)
  all_goals
   rw [c1] at cg hres
   rw [c2] at hres
   simp only [↓wpre, wall, simprocAttr, h5, h6, e1, e4, e16, e17, e18, hdec, d4, h10, b1, b2, b3, cg, c2]
   exact EQ_in ⟨j + 1, by omega, _, rfl, e1, by rw [hres]; rfl, e16, e17, next_ixv (by omega), by omega⟩
 ·have hdec : decide ((j : Int) < gas.length) = false := by simpa using hge
  rw [List.take_of_length_le (by omega)] at hb
  have hres : p.few = (b && decide ((gas.length : Int) ≤ 6)) := by rw [Pr.few, hb, hl]
  cases b <;> cases c1 : decide ((gas.length : Int) ≤ 6)
  all_goals
   rw [c1] at hres
   simp only [↓wpre, wall, simprocAttr, e1, e4, e16, e17, e18, hdec, c1]
   rw [hres]; rfl
def Ex.few (gl : ByteArray → Bool) (e : Ex) : Bool := (e.small 60 60).isSome && (e.err gl 1073741824 == 0)
end Go.Proofs.Eng
namespace Go.Proofs.Eng
open Go Go.Proofs
theorem fm_facts {k i : Int} {n : ByteArray} {s : List Int} {l : Nat} (h : fmB k i n s l = true) :
  0 ≤ k ∧ k < 12 ∧ 0 ≤ i ∧ s.length ≤ 32 ∧ l ≤ 4096 ∧ (∀ x ∈ s, 0 ≤ x ∧ x ≤ 64) ∧
  (k = 0 → l = 0 ∧ s = [] ∧ n.size = 0) ∧ (k = 4 → l = s.length + 1) ∧ ((k = 2 ∨ k = 7 ∨ k = 8) → l = 2) ∧ ((k = 1 ∨ k = 9 ∨ k = 10) → l = 1) ∧ (k = 3 → i < 32) := by
 simp only [fmB, Bool.and_eq_true, decide_eq_true_eq] at h
 obtain ⟨⟨⟨⟨⟨h0, h1⟩, h2⟩, h3⟩, h4⟩, h5⟩ := h
 unfold tabB at h5
 by_cases k3 : k = 3
 ·rw [if_pos k3] at h5
  simp [ctorB] at h5
  obtain ⟨⟨rfl, h6⟩, h7⟩ := h5
  refine ⟨h0, h1, h2, by simp, by omega, by simp, ?_, ?_, ?_, ?_, ?_⟩ <;> (intro; omega)
 ·rw [if_neg k3] at h5
  by_cases k4 : k = 4
  ·rw [if_pos k4] at h5
   simp only [caseB, Bool.and_eq_true, decide_eq_true_eq, beq_iff_eq, Bool.not_eq_true', List.any_eq_false] at h5
   obtain ⟨⟨h6, h7⟩, h8⟩ := h5
   refine ⟨h0, h1, h2, h6, by omega, ?_, ?_, ?_, ?_, ?_, ?_⟩
   ·intro x hx
    have := h8 x hx
    simp [badSize] at this
    omega
   all_goals (intro; omega)
  ·rw [if_neg k4] at h5
   simp [kidsB] at h5
   obtain ⟨h6, rfl⟩ := h5
   have hk : kn k = (if k = 1 ∨ k = 9 ∨ k = 10 then 1 else if k = 2 ∨ k = 7 ∨ k = 8 then 2 else 0) := rfl
   have hl : l ≤ 4096 := by
    split at hk
    ·omega
    ·split at hk <;> omega
   refine ⟨h0, h1, h2, by simp, hl, by simp, ?_, ?_, ?_, ?_, ?_⟩
   ·intro h
    refine ⟨?_, rfl, ?_⟩
    ·rw [hk, if_neg (by omega), if_neg (by omega)] at h6; omega
    ·subst h; simpa [namedB] using h3
   ·intro; omega
   ·intro h; rw [hk, if_neg (by omega), if_pos h] at h6; omega
   ·intro h; rw [hk, if_pos h] at h6; omega
   ·intro; omega
mutual
def Ex.wf : Ex → Prop
 | .mk k i n s kids => fmB k i n s kids.length = true ∧ wfL kids
def wfL : List Ex → Prop
 | [] => True
 | e :: es => e.wf ∧ wfL es
end
mutual
def Ex.dep : Ex → Nat
 | .mk _ _ _ _ kids => depL kids + 1
def depL : List Ex → Nat
 | [] => 0
 | e :: es => max e.dep (depL es)
end
theorem dep_kid {l : List Ex} {e : Ex} (h : e ∈ l) : e.dep ≤ depL l := by
 induction l with
 | nil => simp at h
 | cons x l ih =>
  simp only [depL]
  rcases List.mem_cons.1 h with rfl | h
  ·omega
  ·have := ih h; omega
end Go.Proofs.Eng
namespace Go.Proofs.Eng
theorem w64_in {n : Int} (h0 : -B62 ≤ n) (h1 : n ≤ B62) : w64 n = n := wrap_in (by unfold in64; unfold B62 at *; omega)
end Go.Proofs.Eng
namespace Go.Proofs.Eng
structure Ins where
 op : Int
 a : Int
 b : Int
 n : ByteArray
 deriving DecidableEq
def Ins.o (op : Int) : Ins := ⟨op, 0, 0, ⟨#[]⟩⟩
def gidx : List Gl → ByteArray → Nat
 | [], _ => 0
 | g :: gs, n => if g.1 = n then 0 else gidx gs n + 1
def opK (k : Int) : Int := if k = 2 then 2 else if k = 6 then 8 else if k = 8 then 11 else if k = 9 then 12 else if k = 10 then 13 else 14
def brs : Nat → List Int → List Ins
 | _, [] => []
 | c, x :: l => ⟨6, (c : Int), x, ⟨#[]⟩⟩ :: brs (c + 1) l
section
variable (gs : List Gl)
mutual
def Ex.emit (c : Nat) : Ex → List Ins × List Ex
 | .mk k i n s kids =>
  if k = 0 then ([⟨0, i, 0, ⟨#[]⟩⟩], [])
  else if k = 1 then ([⟨1, (c : Int), 0, ⟨#[]⟩⟩], kids.take 1)
  else if k = 3 then ((emitL c kids).1 ++ [⟨4, i, (kids.length : Nat), n⟩], (emitL c kids).2)
  else if k = 4 then ((emitH c kids).1 ++ ⟨5, (s.length : Nat), 0, ⟨#[]⟩⟩ :: brs (c + (emitH c kids).2.length) s, (emitH c kids).2 ++ kids.drop 1)
  else if k = 5 then ([⟨7, (gidx gs n : Nat), 0, ⟨#[]⟩⟩], [])
  else if k = 7 then ((emitH c kids).1 ++ .o 9 :: (emitT c kids).1 ++ [.o 10], (emitH c kids).2 ++ (emitT c kids).2)
  else ((emitL c kids).1 ++ [.o (opK k)], (emitL c kids).2)
def emitL (c : Nat) : List Ex → List Ins × List Ex
 | [] => ([], [])
 | x :: l => ((x.emit c).1 ++ (emitL (c + (x.emit c).2.length) l).1, (x.emit c).2 ++ (emitL (c + (x.emit c).2.length) l).2)
def emitH (c : Nat) : List Ex → List Ins × List Ex
 | [] => ([], [])
 | x :: _ => x.emit c
def emitT (c : Nat) : List Ex → List Ins × List Ex
 | [] => ([], [])
 | x :: l => emitH (c + (x.emit c).2.length) l
end
theorem emitL_snoc : ∀ (l : List Ex) (c : Nat) (x : Ex), emitL gs c (l ++ [x]) = ((emitL gs c l).1 ++ (x.emit gs (c + (emitL gs c l).2.length)).1, (emitL gs c l).2 ++ (x.emit gs (c + (emitL gs c l).2.length)).2)
 | [], c, x => by simp [emitL]
 | y :: l, c, x => by
  simp only [List.cons_append, emitL, emitL_snoc l, List.append_assoc, List.length_append, Nat.add_assoc]
theorem brs_len : ∀ (s : List Int) (c : Nat), (brs c s).length = s.length
 | [], _ => rfl
 | x :: l, c => by simp [brs, brs_len l]
theorem brs_snoc : ∀ (s : List Int) (c : Nat) (x : Int), brs c (s ++ [x]) = brs c s ++ [⟨6, ((c + s.length : Nat) : Int), x, ⟨#[]⟩⟩]
 | [], c, x => by simp [brs]
 | y :: l, c, x => by
  rw [List.cons_append, brs, brs_snoc l, brs, List.length_cons, List.cons_append, show c + 1 + l.length = c + (l.length + 1) from by omega]
end
mutual
def Ex.sz : Ex → Nat
 | .mk _ _ _ _ kids => szL kids + 1
def szL : List Ex → Nat
 | [] => 0
 | e :: es => e.sz + szL es
end
theorem szL_app : ∀ (l m : List Ex), szL (l ++ m) = szL l + szL m
 | [], m => by simp [szL]
 | x :: l, m => by rw [List.cons_append, szL, szL_app l, szL]; omega
theorem szL_pre (l : List Ex) (n : Nat) : szL (l.take n) ≤ szL l := by
 have := szL_app (l.take n) (l.drop n)
 rw [List.take_append_drop] at this; omega
theorem szL_suf (l : List Ex) (n : Nat) : szL (l.drop n) + szL (l.take n) = szL l := by
 have := szL_app (l.take n) (l.drop n)
 rw [List.take_append_drop] at this; omega
theorem emit_sz (gs : List Gl) (e : Ex) : ∀ c, szL (e.emit gs c).2 < e.sz := by
 induction e using Ex.ind with
 | h k i n s kids ih =>
  intro c
  have hL : ∀ (l : List Ex), (∀ x ∈ l, x ∈ kids) → ∀ c, szL (emitL gs c l).2 ≤ szL l := by
   intro l
   induction l with
   | nil => intro _ c; simp [emitL]
   | cons x l ihl =>
    intro h c
    rw [emitL, szL_app, szL]
    have h1 := ih x (h x (by simp)) c
    have h2 := ihl (fun y hy => h y (by simp [hy])) (c + (x.emit gs c).2.length)
    omega
  have hH : ∀ c, szL (emitH gs c kids).2 ≤ szL (kids.take 1) := by
   intro c
   cases kids with
   | nil => simp [emitH]
   | cons x l =>
    have := ih x (by simp) c
    simp only [emitH, List.take_succ_cons, List.take_zero, szL]; omega
  have hT : ∀ c, szL (emitT gs c kids).2 ≤ szL (kids.drop 1) := by
   intro c
   cases kids with
   | nil => simp [emitT]
   | cons x l =>
    cases l with
    | nil => simp [emitT, emitH, szL]
    | cons y l =>
     have := ih y (by simp) (c + (x.emit gs c).2.length)
     simp only [emitT, emitH, List.drop_succ_cons, List.drop_zero, szL]; omega
  rw [Ex.emit, Ex.sz]
  have a1 := szL_pre kids 1
  have a2 := szL_suf kids 1
  have a3 := hH c
  have a4 := hT c
  have a5 := hL kids (fun _ h => h) c
  repeat' split
  all_goals simp only [szL_app, szL] <;> omega
def blocks (gs : List Gl) : Nat → Nat → List Ex → List (List Ins)
 | 0, _, _ => []
 | _, _, [] => []
 | f + 1, c, e :: l => ((e.emit gs c).1 ++ [.o 3]) :: blocks gs f (c + (e.emit gs c).2.length) (l ++ (e.emit gs c).2)
theorem blocks_fuel (gs : List Gl) : ∀ (f g c : Nat) (l : List Ex), szL l ≤ f → szL l ≤ g → blocks gs f c l = blocks gs g c l
 | 0, g, c, l, h1, h2 => by
  cases l with
  | nil => cases g <;> rfl
  | cons x l => cases x; simp [szL, Ex.sz] at h1
 | f + 1, g, c, [], _, _ => by cases g <;> rfl
 | f + 1, 0, c, x :: l, h1, h2 => by cases x; simp [szL, Ex.sz] at h2
 | f + 1, g + 1, c, x :: l, h1, h2 => by
  have := emit_sz gs x c
  rw [szL] at h1 h2
  rw [blocks, blocks, blocks_fuel gs f g _ _ (by rw [szL_app]; omega) (by rw [szL_app]; omega)]
def blocksOf (gs : List Gl) (l : List Ex) : List (List Ins) := blocks gs (szL l) l.length l
theorem blocks_cons {gs : List Gl} {f c : Nat} {x : Ex} {l : List Ex} (h : szL (x :: l) ≤ f) : blocks gs f c (x :: l) = ((x.emit gs c).1 ++ [.o 3]) :: blocks gs f (c + (x.emit gs c).2.length) (l ++ (x.emit gs c).2) := by
 have h1 := emit_sz gs x c
 rw [szL] at h
 cases f with
 | zero => omega
 | succ f =>
  rw [blocks, blocks_fuel gs f (f + 1) _ _ (by rw [szL_app]; omega) (by rw [szL_app]; omega)]
mutual
def Ex.nb : Ex → Nat
 | .mk k _ _ s kids => (if k = 1 then 1 else if k = 4 then s.length else 0) + nbL kids
def nbL : List Ex → Nat
 | [] => 0
 | x :: l => x.nb + nbL l
end
mutual
def Ex.ni : Ex → Nat
 | .mk k _ _ s kids => (if k = 1 then 2 else if k = 4 then 1 + 2 * s.length else if k = 7 then 2 else 1) + niL kids
def niL : List Ex → Nat
 | [] => 0
 | x :: l => x.ni + niL l
end
mutual
def Ex.ar : Ex → Prop
 | .mk k _ _ s kids => (k = 0 → kids = []) ∧ (k = 1 → kids.length = 1) ∧ (k = 4 → kids.length = s.length + 1) ∧ (k = 5 → kids = []) ∧ (k = 7 → kids.length = 2) ∧ arL kids
def arL : List Ex → Prop
 | [] => True
 | x :: l => x.ar ∧ arL l
end
theorem arL_iff : ∀ l : List Ex, arL l ↔ ∀ x ∈ l, x.ar
 | [] => by simp [arL]
 | x :: l => by simp [arL, arL_iff l]
theorem nbL_app : ∀ (l m : List Ex), nbL (l ++ m) = nbL l + nbL m
 | [], m => by simp [nbL]
 | x :: l, m => by rw [List.cons_append, nbL, nbL_app l, nbL]; omega
theorem niL_app : ∀ (l m : List Ex), niL (l ++ m) = niL l + niL m
 | [], m => by simp [niL]
 | x :: l, m => by rw [List.cons_append, niL, niL_app l, niL]; omega
def Cnt (gs : List Gl) (c : Nat) (r : List Ins × List Ex) (n m : Nat) : Prop := r.2.length + nbL r.2 = n ∧ r.1.length + niL r.2 + r.2.length = m ∧ arL r.2
theorem arL_app (l m : List Ex) : arL (l ++ m) ↔ arL l ∧ arL m := by
 simp only [arL_iff, List.mem_append]
 exact ⟨fun h => ⟨fun x hx => h x (.inl hx), fun x hx => h x (.inr hx)⟩, fun h x hx => hx.elim (h.1 x) (h.2 x)⟩
theorem emit_cnt (gs : List Gl) (e : Ex) : e.ar → ∀ c, Cnt gs c (e.emit gs c) e.nb e.ni := by
 induction e using Ex.ind with
 | h k i n s kids ih =>
  intro ha c
  rw [Ex.ar] at ha
  obtain ⟨h0, h1, h4, h5, h7, hk⟩ := ha
  rw [arL_iff] at hk
  have hL : ∀ (l : List Ex), (∀ x ∈ l, x ∈ kids) → ∀ c, Cnt gs c (emitL gs c l) (nbL l) (niL l) := by
   intro l
   induction l with
   | nil => intro _ c; exact ⟨by simp [emitL, nbL], by simp [emitL, niL], by simp [emitL, arL]⟩
   | cons x l ihl =>
    intro h c
    obtain ⟨a1, a2, a3⟩ := ih x (h x (by simp)) (hk x (h x (by simp))) c
    obtain ⟨b1, b2, b3⟩ := ihl (fun y hy => h y (by simp [hy])) (c + (x.emit gs c).2.length)
    refine ⟨?_, ?_, ?_⟩
    ·simp only [emitL, List.length_append, nbL_app, nbL]; omega
    ·simp only [emitL, List.length_append, niL_app, niL]; omega
    ·simp only [emitL, arL_app]; exact ⟨a3, b3⟩
  rw [Ex.emit, Ex.nb, Ex.ni]
  by_cases k0 : k = 0
  ·have := h0 k0; subst this
   rw [if_pos k0, if_neg (by omega), if_neg (by omega), if_neg (by omega), if_neg (by omega), if_neg (by omega)]
   exact ⟨by simp [nbL], by simp [niL], by simp [arL]⟩
  rw [if_neg k0]
  by_cases k1 : k = 1
  ·match kids, h1 k1 with
   | [x], _ =>
    rw [if_pos k1, if_pos k1, if_pos k1]
    exact ⟨by simp [nbL], by simp [niL]; omega, by simp [arL, hk x (by simp)]⟩
  rw [if_neg k1, if_neg k1, if_neg k1]
  obtain ⟨a1, a2, a3⟩ := hL kids (fun _ h => h) c
  by_cases k3 : k = 3
  ·rw [if_pos k3, if_neg (by omega), if_neg (by omega), if_neg (by omega)]
   exact ⟨by simp only []; omega, by simp only [List.length_append, List.length_cons, List.length_nil]; omega, a3⟩
  rw [if_neg k3]
  by_cases k4 : k = 4
  ·rw [if_pos k4, if_pos k4, if_pos k4]
   have hl := h4 k4
   cases kids with
   | nil => simp at hl
   | cons x l =>
    obtain ⟨b1, b2, b3⟩ := ih x (by simp) (hk x (by simp)) c
    simp only [emitH, List.drop_succ_cons, List.drop_zero]
    simp only [List.length_cons] at hl
    refine ⟨by simp only [List.length_append, nbL_app, nbL]; omega, by simp only [List.length_append, List.length_cons, niL_app, niL, brs_len]; omega, ?_⟩
    simp only [arL_app]
    exact ⟨b3, (arL_iff l).2 fun y hy => hk y (by simp [hy])⟩
  rw [if_neg k4, if_neg k4, if_neg k4]
  by_cases k5 : k = 5
  ·have := h5 k5; subst this
   rw [if_pos k5, if_neg (by omega)]
   exact ⟨by simp [nbL], by simp [niL], by simp [arL]⟩
  rw [if_neg k5]
  by_cases k7 : k = 7
  ·rw [if_pos k7, if_pos k7]
   match kids, h7 k7 with
   | [x, y], _ =>
    obtain ⟨b1, b2, b3⟩ := ih x (by simp) (hk x (by simp)) c
    obtain ⟨d1, d2, d3⟩ := ih y (by simp) (hk y (by simp)) (c + (x.emit gs c).2.length)
    simp only [emitH, emitT]
    refine ⟨by simp only [List.length_append, nbL_app, nbL]; omega, by simp only [List.length_append, List.length_cons, List.length_nil, niL_app, niL]; omega, ?_⟩
    simp only [arL_app]
    exact ⟨b3, d3⟩
  rw [if_neg k7, if_neg k7]
  exact ⟨by simp only []; omega, by simp only [List.length_append, List.length_cons, List.length_nil]; omega, a3⟩
theorem blocks_cnt (gs : List Gl) : ∀ (f c : Nat) (l : List Ex), szL l ≤ f → arL l → (blocks gs f c l).length = l.length + nbL l ∧ ((blocks gs f c l).map List.length).sum = l.length + niL l
 | f, c, [], _, _ => by cases f <;> simp [blocks, nbL, niL]
 | 0, c, x :: l, h, _ => by cases x; simp [szL, Ex.sz] at h
 | f + 1, c, x :: l, h, ha => by
  have h1 := emit_sz gs x c
  rw [szL] at h
  rw [arL] at ha
  obtain ⟨a1, a2, a3⟩ := emit_cnt gs x ha.1 c
  obtain ⟨b1, b2⟩ := blocks_cnt gs f (c + (x.emit gs c).2.length) (l ++ (x.emit gs c).2) (by rw [szL_app]; omega) ((arL_app _ _).2 ⟨ha.2, a3⟩)
  rw [nbL_app, List.length_append] at b1
  rw [niL_app, List.length_append] at b2
  rw [blocks, List.length_cons, b1, List.map_cons, List.sum_cons, b2, List.length_cons, nbL, niL, List.length_append, List.length_cons, List.length_nil]
  omega
end Go.Proofs.Eng
namespace Go.Proofs.Eng
structure Cd where
 bl : List (List Ins)
 gl : List ByteArray
 st : List Int
def usesA (op : Int) : Bool := op == 0 || op == 1 || op == 5 || op == 7 || op == 6 || op == 4
def usesB (op : Int) : Bool := op == 6 || op == 4
def usesN (op : Int) : Bool := op == 4
def caseOK (x : Ins) (rest : List Ins) : Bool := decide (x.a ≤ 32) && decide (x.a ≤ (rest.length : Nat)) && (rest.take x.a.toNat).all fun y => y.op == 6
def iplB (x : Ins) (rest : List Ins) (br : Int) : Bool :=
 decide (0 ≤ x.op) && decide (x.op ≤ 14) && decide (0 ≤ x.a) && decide (0 ≤ x.b) && (usesA x.op || x.a == 0) && (usesB x.op || x.b == 0) && (usesN x.op || x.n.size == 0) && ((x.op == 6) == decide (0 < br)) && (x.op != 5 || caseOK x rest)
def missB (nb ng : Nat) (x : Ins) : Bool := x.op == 4 && decide (32 ≤ x.a) || x.op == 6 && decide (64 < x.b) || (x.op == 1 || x.op == 6) && decide ((nb : Int) ≤ x.a) || x.op == 7 && decide ((ng : Int) ≤ x.a)
def formE (nb ng : Nat) (x : Ins) (rest : List Ins) (br : Int) : Int := if iplB x rest br = false then 3 else if x.op = 4 ∧ isName x.n = false then 29 else if missB nb ng x = true then 2 else 0
structure Sk where
 S : List Int
 env : Int
 stack : Int
 binds : Int
 br : Int
def entE (n : Nat) (S : List Int) (b size : Int) : Except Int (List Int) := if 0 ≤ S.getD b.toNat 0 then .error 8 else if b ≤ n then .error 1 else .ok (S.set b.toNat size)
def refE (n : Nat) (x : Ins) (t : Sk) : Except Int (List Int) := if x.op = 1 then entE n t.S x.a (t.env + 1) else if x.op = 6 then entE n t.S x.a (t.env + x.b) else if x.op = 0 ∧ t.env ≤ x.a then .error 24 else .ok t.S
def popI (x : Ins) : Int := if x.op = 2 ∨ x.op = 11 then 2 else if x.op = 4 then x.b else if x.op = 5 ∨ x.op = 12 ∨ x.op = 13 ∨ x.op = 9 then 1 else 0
def pushI (x : Ins) : Int := if x.op = 3 ∨ x.op = 6 ∨ x.op = 9 ∨ x.op = 10 then 0 else 1
def envI (x : Ins) (v : Int) : Int := if x.op = 9 then v + 1 else if x.op = 10 then v - 1 else v
def brI (x : Ins) (b : Int) : Int := if x.op = 5 then x.a else max 0 (b - 1)
def exeE (x : Ins) (rest : List Ins) (S : List Int) (t : Sk) : Except Int Sk :=
 if t.stack < popI x ∨ x.op = 10 ∧ t.binds = 0 then .error 27
 else if (x.op == 3) != rest.isEmpty then .error 3
 else if x.op = 3 ∧ (t.stack - popI x + pushI x ≠ 1 ∨ envI x t.binds ≠ 0) then .error 27
 else .ok ⟨S, envI x t.env, t.stack - popI x + pushI x, envI x t.binds, brI x t.br⟩
def stp (nb ng n : Nat) (x : Ins) (rest : List Ins) (t : Sk) : Except Int Sk :=
 if formE nb ng x rest t.br ≠ 0 then .error (formE nb ng x rest t.br) else match refE n x t with
  | .error e => .error e
  | .ok S => exeE x rest S t
def irun (nb ng n : Nat) (suf : List Ins) : List Ins → Sk → Except Int Sk
 | [], t => .ok t
 | x :: l, t => match stp nb ng n x (l ++ suf) t with
  | .error e => .error e
  | .ok t' => irun nb ng n suf l t'
def goB (nb ng : Nat) : Nat → List (List Ins) → List Int → Int
 | _, [], _ => 0
 | n, l :: r, S => if S.getD n 0 < 0 then 9 else if l = [] then 3 else match irun nb ng n [] l ⟨S, S.getD n 0, 0, 0, 0⟩ with
  | .error e => e
  | .ok t => goB nb ng (n + 1) r t.S
def twice {α : Type} [DecidableEq α] : List α → List α → Bool
 | _, [] => false
 | p, x :: l => decide (x ∈ p) || twice (p ++ [x]) l
def Cd.outE (c : Cd) : Int :=
 if c.bl = [] ∨ c.st.length ≠ c.gl.length ∨ (c.st.any fun s => decide (s < 1) || decide ((c.bl.length : Int) ≤ s)) = true ∨ twice [] c.st = true then 3
 else if (c.gl.any fun g => !isName g) = true then 29
 else if twice [] c.gl = true then 8 else 0
def Cd.S0 (c : Cd) : List Int := c.st.foldl (fun S s => S.set s.toNat 0) ((List.replicate c.bl.length (-1)).set 0 0)
def Cd.check (c : Cd) : Int := if c.outE ≠ 0 then c.outE else goB c.bl.length c.gl.length 0 c.bl c.S0
mutual
def Ex.envs (v : Int) : Ex → List Int
 | .mk k _ _ s kids =>
  if k = 0 then [] else if k = 1 then [v + 1] else if k = 3 then envsL v kids else if k = 4 then envsH v kids ++ s.map (v + ·) else if k = 5 then [] else if k = 7 then envsH v kids ++ envsT v kids else envsL v kids
def envsL (v : Int) : List Ex → List Int
 | [] => []
 | x :: l => x.envs v ++ envsL v l
def envsH (v : Int) : List Ex → List Int
 | [] => []
 | x :: _ => x.envs v
def envsT (v : Int) : List Ex → List Int
 | [] => []
 | _ :: l => envsH (v + 1) l
end
end Go.Proofs.Eng
namespace Go.Proofs.Eng
set_option maxRecDepth 100000
theorem fm_none {k i : Int} {n : ByteArray} {s : List Int} {l : Nat} (h : fmB k i n s l = true) (hk : k = 5 ∨ k = 6 ∨ k = 11) : l = 0 := by
 rcases hk with rfl | rfl | rfl <;>
 ·simp only [fmB, Bool.and_eq_true] at h
  have h := h.2
  simp [tabB, kidsB, kn] at h
  omega
theorem err_facts {gl : ByteArray → Bool} {v k i : Int} {n : ByteArray} {s : List Int} {kids : List Ex} (h : (Ex.mk k i n s kids).err gl v = 0) :
  fmB k i n s kids.length = true ∧ (k = 3 → isName n = true) ∧ (k = 0 → i < v) ∧ (k = 5 → gl n = true) ∧ errL gl k s v 0 kids = 0 := by
 rw [Ex.err] at h
 split at h
 ·omega
 rename_i h1
 split at h
 ·omega
 rename_i h2
 split at h
 ·omega
 rename_i h3
 split at h
 ·omega
 rename_i h4
 refine ⟨by simpa using h1, fun hk => ?_, fun hk => ?_, fun hk => ?_, h⟩
 ·cases hn : isName n
  ·exact absurd ⟨by simp [namedB, hk], hn⟩ h2
  ·rfl
 ·rcases Int.lt_or_le i v with h5 | h5
  ·exact h5
  ·exact absurd ⟨hk, by simpa using h5⟩ h3
 ·cases hn : gl n
  ·exact absurd ⟨hk, hn⟩ h4
  ·rfl
theorem errL_at {gl : ByteArray → Bool} {k v : Int} {s : List Int} : ∀ {l : List Ex} {j i : Nat} {x : Ex}, errL gl k s v j l = 0 → l[i]? = some x → x.err gl (w64 (v + under k s (j + i))) = 0
 | [], _, _, _, _, h => by simp at h
 | y :: l, j, 0, x, h, hx => by
  simp at hx; subst hx
  rw [errL] at h
  split at h
  ·assumption
  ·rename_i h1; exact absurd h h1
 | y :: l, j, i + 1, x, h, hx => by
  rw [errL] at h
  split at h
  ·have := errL_at (j := j + 1) (i := i) h (by simpa using hx)
   rwa [show j + 1 + i = j + (i + 1) from by omega] at this
  ·rename_i h1; exact absurd h h1
theorem err_ar {gl : ByteArray → Bool} (e : Ex) : ∀ {v}, e.err gl v = 0 → e.ar := by
 induction e using Ex.ind with
 | h k i n s kids ih =>
  intro v h
  obtain ⟨h1, _, _, _, h5⟩ := err_facts h
  obtain ⟨_, _, _, _, _, _, f0, f4, f2, f1, _⟩ := fm_facts h1
  rw [Ex.ar]
  refine ⟨fun hk => List.length_eq_zero_iff.1 (f0 hk).1, fun hk => f1 (.inl hk), f4, fun hk => List.length_eq_zero_iff.1 (fm_none h1 (.inl hk)), fun hk => f2 (.inr (.inl hk)), (arL_iff _).2 fun x hx => ?_⟩
  obtain ⟨j, hj⟩ := List.getElem?_of_mem hx
  exact ih x hx (errL_at h5 hj)
theorem under_le {gl : ByteArray → Bool} {k i : Int} {n : ByteArray} {s : List Int} {l : Nat} (h : fmB k i n s l = true) (j : Nat) : 0 ≤ under k s j ∧ under k s j ≤ 64 := by
 obtain ⟨_, _, _, _, _, f, _⟩ := fm_facts h
 unfold under
 split
 ·omega
 ·split
  ·rename_i hj
   have hx : s.getD (j - 1) 0 ∈ s := by
    rw [List.getD, List.getElem?_eq_getElem (by omega)]; exact List.getElem_mem _
   have := f _ hx
   split <;> omega
  ·omega
theorem kid_err {gl : ByteArray → Bool} {v k i : Int} {n : ByteArray} {s : List Int} {kids : List Ex} (h : (Ex.mk k i n s kids).err gl v = 0) (hv : 0 ≤ v) (hd : v + 64 * (Ex.mk k i n s kids).dep ≤ B62) {j : Nat} {x : Ex} (hx : kids[j]? = some x) :
  x.err gl (v + under k s j) = 0 ∧ 0 ≤ v + under k s j ∧ v + under k s j + 64 * x.dep ≤ v + 64 * (Ex.mk k i n s kids).dep := by
 obtain ⟨h1, _, _, _, h5⟩ := err_facts h
 obtain ⟨u0, u1⟩ := under_le (gl := gl) h1 j
 have h6 := errL_at h5 hx
 have h7 := dep_kid (List.mem_of_getElem? hx)
 rw [Ex.dep] at hd ⊢
 rw [Nat.zero_add, w64_in (by unfold B62; omega) (by unfold B62 at *; omega)] at h6
 exact ⟨h6, by omega, by omega⟩
section
variable {gs : List Gl} {gl : ByteArray → Bool} {nb ng n : Nat}
end
end Go.Proofs.Eng
