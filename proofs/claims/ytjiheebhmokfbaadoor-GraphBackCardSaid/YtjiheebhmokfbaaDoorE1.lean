/- The builder puts terms for variables: what is owed of its function. No conditions beyond those in the theorems. -/
import Derived.Test.YtjiheebhmokfbaaDoorC9
import Derived.Test.YtjiheebhmokfbaaDoorC7
set_option linter.all false
set_option linter.deprecated false
set_option linter.unnecessarySimpa false
set_option linter.unusedVariables false
set_option linter.unusedSimpArgs false
set_option linter.defProp false
namespace Go.Proofs.Eng
open Go Go.Proofs
set_option maxRecDepth 100000
set_option maxHeartbeats 16000000
def vr (i : Int) : Tm := .mk 0 i ⟨#[]⟩ [] []
section
variable (z : Tm) (b : Int) (fr : Int)
def lbad (i : Int) (d : Nat) : Bool := decide (i + b < fr + d) || decide (65535 < i + b)
def lvar (i : Int) (d : Nat) : Tm := if lbad b fr i d = true then z else vr (i + b)
end
end Go.Proofs.Eng
namespace Go.Proofs.Eng
open Go Go.Proofs
set_option maxRecDepth 100000
set_option maxHeartbeats 16000000
structure SW (w : Nat) (H : List AObj) (V : List Nat) (H' : List AObj) (V' : List Nat) : Prop where
 le : H.length ≤ H'.length
 keep : ∀ (k : Nat), k < H.length → k ≠ w → H'[k]? = H[k]?
 vl : V.length ≤ V'.length
 vk : ∀ (i v : Nat), V[i]? = some v → V'[i]? = some v
theorem SW.refl (w : Nat) (H : List AObj) (V : List Nat) : SW w H V H V := ⟨Nat.le_refl _, fun _ _ _ => rfl, Nat.le_refl _, fun _ _ h => h⟩
theorem SW.trans {w : Nat} {A B C : List AObj} {V V' V'' : List Nat} (h : SW w A V B V') (k : SW w B V' C V'') : SW w A V C V'' :=
 ⟨Nat.le_trans h.le k.le, fun i h1 h2 => (k.keep i (Nat.lt_of_lt_of_le h1 h.le) h2).trans (h.keep i h1 h2), Nat.le_trans h.vl k.vl, fun i v e => k.vk i v (h.vk i v e)⟩
theorem SW.app (w : Nat) (H : List AObj) (V : List Nat) (G : List AObj) : SW w H V (H ++ G) V := ⟨by simp, fun k h _ => List.getElem?_append_left h, Nat.le_refl _, fun _ _ h => h⟩
theorem SW.set {w : Nat} {A B : List AObj} {V V' : List Nat} (h : SW w A V B V') {q : Nat} (hq : A.length ≤ q ∨ q = w) (o : AObj) : SW w A V (B.set q o) V' :=
 ⟨by rw [List.length_set]; exact h.le, fun k h1 h2 => by rw [List.getElem?_set, if_neg (by omega)]; exact h.keep k h1 h2, h.vl, h.vk⟩
section
variable (b fr : Int)
mutual
def Tm.sh (d : Nat) : Tm → Tm
 | .mk k i n ls kids => if k = 0 then (if i < fr + d then .mk k i n ls kids else if i + b < fr + d then .mk k i n ls kids else vr (i + b)) else .mk k i n ls (shL d k 0 kids)
def shL (d : Nat) (k : Int) : Nat → List Tm → List Tm
 | _, [] => []
 | j, t :: l => t.sh (d + (binderG k j).toNat) :: shL d k (j + 1) l
end
mutual
def Tm.shE (d : Nat) : Tm → Bool
 | .mk k i _ _ kids => if k = 0 then !decide (i < fr + d) && lbad b fr i d else shEL d k 0 kids
def shEL (d : Nat) (k : Int) : Nat → List Tm → Bool
 | _, [] => false
 | j, t :: l => t.shE (d + (binderG k j).toNat) || shEL d k (j + 1) l
end
end
section
variable {b fr : Int}
end
theorem vrIs {i : Int} (h0 : 0 ≤ i) (h1 : i ≤ 4294967296) : (vr i).Is (.agg [.int 0, .int i, .str ⟨#[]⟩, .sl [] .nil, .sl [] .nil]) :=
 Tm.Is.mk rfl rfl (by unfold in64; omega) (by unfold in64; omega) (Nat.zero_le _) (Nat.zero_le _) (Nat.zero_le _) trivial trivial
theorem tm_frz {s : ASt} {las kas : List AV} {t1 t2 : Tl} {c : Prop} [Decidable c] (h1 : pureAVs las = true) (h2 : pureAVs kas = true) : (if c then s else frz 19 (frz 19 s (.sl las t1)) (.sl kas t2)) = s := by
 rw [fr_sl h1, fr_sl h2, ite_self]
end Go.Proofs.Eng
namespace Go.Proofs.Eng
open Go Go.Proofs
set_option maxRecDepth 100000
set_option maxHeartbeats 16000000
end Go.Proofs.Eng
namespace Go.Proofs.Eng
open Go Go.Proofs
set_option maxRecDepth 100000
set_option maxHeartbeats 16000000
theorem gunf_sh {T : List Tm} (hG : GT T) {al : List AV} {tg : Tl} (hg : GIs (nodesOf T) (.agg [.sl al tg])) {gi ci : Nat} (x : Tm) : ∀ {H : List AObj} {V : List Nat}, x ∈ T → H[gi]? = some (.cells false [.sl al tg]) → H[ci]? = some (.cells false [.fn 59 [.ptr gi 0, .ptr ci 0]]) →
    Sh md pfs 59 [.int (T.idxOf x : Nat), .ptr gi 0, .ptr ci 0] ⟨H, V⟩ (fun v s => x.Is v ∧ ∃ H' V', s = ⟨H', V'⟩ ∧ H.length ≤ H'.length ∧ (∀ k, k < H.length → H'[k]? = H[k]?) ∧ V.length ≤ V'.length ∧ ∀ (i v : Nat), V[i]? = some v → V'[i]? = some v) fun _ _ => False := by
  induction x using Tm.ind with
  | h k i nm ls kids ih =>
  intro H V hx hgi hci
  obtain ⟨al', tg', hag, h1, h2, h3⟩ := id hg
  simp only [AV.agg.injEq, List.cons.injEq, AV.sl.injEq, and_true] at hag
  obtain ⟨rfl, rfl⟩ := hag
  have hln := h3.len
  rw [nodes_len] at hln
  have hall := h3.all ndAgg
  have hk : ∀ y ∈ kids, y ∈ T := (hG.good.all _ hx).2
  have hlt0 := List.idxOf_lt_length_of_mem hx
  have hr0 := hG.right _ hx
  have hk3 : kids.length ≤ 3 := by
    have h1 := (right_facts hr0).1.kids
    simp only [Tm.k, Tm.kids] at h1
    have : kidsN k ≤ 3 := by unfold kidsN; repeat' split
                             all_goals omega
    omega
  obtain ⟨n, c, d0, d1, d3, d4, d5, d6, d7, d8⟩ := h3.get ndAgg (i := T.idxOf (.mk k i nm ls kids)) (by omega)
  have hnx : n = ndOf T (.mk k i nm ls kids) := by
    rw [nodesOf, List.getElem?_map, List.getElem?_eq_getElem hlt0, List.getElem_idxOf] at d0
    exact (Option.some.inj d0).symm
  subst hnx
  obtain ⟨t1, t2, las, hcc, b1, b2, b3, b4, b5, b6, b7, b8, b9⟩ := d8
  simp only [AV.agg.injEq] at hcc; subst hcc
  have hkl : (ndOf T (.mk k i nm ls kids)).kids.length = kids.length := by simp [ndOf, Tm.kids]
  have hkg : ∀ (j : Nat) (y : Tm), kids[j]? = some y → (ndOf T (.mk k i nm ls kids)).kids[j]? = some ((T.idxOf y : Nat) : Int) := fun j y hy => by simp [ndOf, Tm.kids, hy]
  have ek : (ndOf T (.mk k i nm ls kids)).k = k := rfl
  have ei : (ndOf T (.mk k i nm ls kids)).i = i := rfl
  have en : (ndOf T (.mk k i nm ls kids)).n = nm := rfl
  have el : (ndOf T (.mk k i nm ls kids)).ls = ls := rfl
  rw [ek, ei, en] at d4 d5
  rw [ek] at b3
  rw [ei] at b4
  rw [en] at b5
  rw [el] at b8
  generalize (ndOf T (.mk k i nm ls kids)).kids = ks at *
  have hia := ints_all ks
  have hpl : pureAV (.sl las t1) = true := by rw [pv_sl, b1, lvsPure b8]; rfl
  have d5' : List.take 5 [AV.int k, .int i, .str nm, .sl las t1, .sl (ints ks) t2] = [AV.int k, .int i, .str nm, .sl las t1, .sl (ints ks) t2] := rfl
  have hL := lt_of_get hgi
  have hLc := lt_of_get hci
  refine sh_of pf59_is (Nat.le_of_ble_eq_true rfl) ?_
  simp only [pf59]
  have hg1 := fun G => app_get_of hgi G
  refine seqE (fun E H1 V1 => H1 = H ++ [.cells false [.int 0, .int 0, .str ⟨#[]⟩, .sl [] .nil, .sl [] .nil]] ∧ V = V1 ∧ E 0 = .int (T.idxOf (.mk k i nm ls kids) : Nat) ∧ E 1 = .ptr gi 0 ∧ E 2 = .ptr ci 0 ∧ E 4 = .ptr H.length 0) ?_ ?_
  · simp only [↓wpre, wall, simprocAttr]; exact EQ_in ⟨rfl, rfl, rfl, rfl, rfl, rfl⟩
  rintro E _ _ ⟨rfl, rfl, e0, e1, e2, e4⟩
  refine seqE (fun E H1 V1 => H1 = H ++ [.cells false [.int 0, .int 0, .str ⟨#[]⟩, .sl [] .nil, .sl [] .nil], .cells false [.int k, .int i, .str nm, .sl las t1, .sl (ints ks) t2]] ∧ V = V1 ∧ E 2 = .ptr ci 0 ∧ E 4 = .ptr H.length 0 ∧ E 5 = .ptr (H.length + 1) 0) ?_ ?_
  · simp only [↓wpre, wall, simprocAttr, List.length_append, List.append_assoc, app_get_len, app_get_add, app_set_len, app_set_add, e0, e1, e2, e4, hg1, d4, d5', hall]; exact EQ_in ⟨rfl, rfl, e2, e4, rfl⟩
  clear e0 e1 e2 e4 E
  rintro E _ _ ⟨rfl, rfl, e2, e4, e5⟩
  refine seqE (fun E H1 V1 => H1 = H ++ [.cells false [.int 0, .int 0, .str ⟨#[]⟩, .sl [] .nil, .sl [] .nil], .cells false [.int k, .int i, .str nm, .sl las t1, .sl (ints ks) t2], .cells false [.int k, .int i, .str nm, .sl las t1, .sl [] .nil]] ∧ V = V1 ∧ E 2 = .ptr ci 0 ∧ E 4 = .ptr H.length 0 ∧ E 5 = .ptr (H.length + 1) 0 ∧ E 6 = .ptr (H.length + 2) 0) ?_ ?_
  · simp only [↓wpre, wall, simprocAttr, List.length_append, List.append_assoc, app_get_len, app_get_add, app_set_len, app_set_add, e2, e4, e5]; exact EQ_in ⟨rfl, rfl, e2, e4, e5, rfl⟩
  clear e2 e4 e5 E
  rintro E _ _ ⟨rfl, rfl, e2, e4, e5, e6⟩
  have p1 : ∀ (z x y : AObj), (H ++ [z, x, y])[H.length]? = some z := fun z x y => by simp
  have p2 : ∀ (z x y : AObj), (H ++ [z, x, y])[H.length + 1]? = some x := fun z x y => by simp
  have p3 : ∀ (z x y : AObj), (H ++ [z, x, y])[H.length + 2]? = some y := fun z x y => by simp
  have hkp : ∀ (z x y : AObj) k, k < H.length → (H ++ [z, x, y])[k]? = H[k]? := fun z x y k hk => List.getElem?_append_left hk
  have hlp : ∀ (z x y : AObj), (H ++ [z, x, y]).length = H.length + 3 := fun z x y => by simp
  refine seqE (fun E H1 V1 => ∃ kas tk, H1[H.length]? = some (.cells false [.int 0, .int 0, .str ⟨#[]⟩, .sl [] .nil, .sl [] .nil]) ∧ H1[H.length + 2]? = some (.cells false [.int k, .int i, .str nm, .sl las t1, .sl kas tk]) ∧ H.length ≤ H1.length ∧ (∀ k, k < H.length → H1[k]? = H[k]?) ∧ V.length ≤ V1.length ∧ (∀ (i v : Nat), V[i]? = some v → V1[i]? = some v) ∧ E 4 = .ptr H.length 0 ∧ E 6 = .ptr (H.length + 2) 0 ∧ LIs Tm.Is kids kas) ?_ ?_
  · refine seqE (fun E H1 V1 => H1 = H ++ [.cells false [.int 0, .int 0, .str ⟨#[]⟩, .sl [] .nil, .sl [] .nil], .cells false [.int k, .int i, .str nm, .sl las t1, .sl (ints ks) t2], .cells false [.int k, .int i, .str nm, .sl las t1, .sl [] .nil]] ∧ V = V1 ∧ E 2 = .ptr ci 0 ∧ E 4 = .ptr H.length 0 ∧ E 6 = .ptr (H.length + 2) 0 ∧ E 24 = .sl (ints ks) t2 ∧ E 25 = .int (ks.length : Nat) ∧ E 26 = .int (0 : Nat)) ?_ ?_
    · simp only [↓wpre, wall, simprocAttr, List.length_append, List.append_assoc, app_get_len, app_get_add, app_set_len, app_set_add, e5, p2, ints_len]; exact EQ_in ⟨rfl, rfl, e2, e4, e6, rfl, rfl, rfl⟩
    clear e2 e4 e5 e6 E
    rintro E _ _ ⟨rfl, rfl, e2, e4, e6, e24, e25, e26⟩
    rw [W_block]
    refine W_loopE (fun j => ks.length - j) (fun j E H1 V1 => ∃ kas tk, H1[H.length]? = some (.cells false [.int 0, .int 0, .str ⟨#[]⟩, .sl [] .nil, .sl [] .nil]) ∧ H1[H.length + 2]? = some (.cells false [.int k, .int i, .str nm, .sl las t1, .sl kas tk]) ∧ H.length ≤ H1.length ∧ (∀ k, k < H.length → H1[k]? = H[k]?) ∧ V.length ≤ V1.length ∧ (∀ (i v : Nat), V[i]? = some v → V1[i]? = some v) ∧ E 2 = .ptr ci 0 ∧ E 4 = .ptr H.length 0 ∧ E 6 = .ptr (H.length + 2) 0 ∧ E 24 = .sl (ints ks) t2 ∧ E 25 = .int (ks.length : Nat) ∧ E 26 = .int (j : Nat) ∧ j ≤ ks.length ∧ LIs Tm.Is (kids.take j) kas ∧ App V1 kas tk ∧ ∀ (i v : Nat), tk = .tl i v → V.length ≤ i) ?_ 0 ⟨[], .nil, p1 _ _ _, p3 _ _ _, by rw [hlp]; omega, hkp _ _ _, Nat.le_refl _, fun _ _ h => h, e2, e4, e6, e24, e25, e26, Nat.zero_le _, by rw [List.take_zero]; trivial, app_start _, fun i v h => by cases h⟩
    clear e2 e4 e6 e24 e25 e26 E
    rintro j E H1 V1 ⟨kas, tk, q1, q3, q4, q5, q6, q7, e2, e4, e6, e24, e25, e26, hj, hkas, hA, ho⟩
    have hkn := hkas.len
    rw [List.length_take] at hkn
    rcases Nat.lt_or_ge j ks.length with hlt | hge
    · have hdec : decide ((j : Int) < ks.length) = true := by simpa using hlt
      obtain ⟨y, hy⟩ : ∃ y, kids[j]? = some y := ⟨kids[j]'(by omega), List.getElem?_eq_getElem _⟩
      obtain ⟨z, z0, z1, z2⟩ := ints_get hlt
      have hz : z = (T.idxOf y : Nat) := by
        have := hkg j y hy
        rw [this] at z0
        exact (Option.some.inj z0).symm
      subst hz
      have hym := List.mem_of_getElem? hy
      have gi1 : H1[gi]? = some (.cells false [.sl al tg]) := by rw [q5 _ hL]; exact hgi
      have ci1 : H1[ci]? = some (.cells false [.fn 59 [.ptr gi 0, .ptr ci 0]]) := by rw [q5 _ hLc]; exact hci
      obtain ⟨v, _, ⟨hv, H2, V2, rfl, r1, r2, r3, r4⟩, c59⟩ := (ih y hym (V := V1) (hk y hym) gi1 ci1).callRet rfl
      obtain ⟨cv, rfl, l1, l2, l3⟩ := tmCells hv
      have l2' := lt_of_get q3
      have q1' : H2[H.length]? = some (.cells false [.int 0, .int 0, .str ⟨#[]⟩, .sl [] .nil, .sl [] .nil]) := by rw [r2 _ (by omega)]; exact q1
      have q3' : H2[H.length + 2]? = some (.cells false [.int k, .int i, .str nm, .sl las t1, .sl kas tk]) := by rw [r2 _ (by omega)]; exact q3
      have hA2 : App V2 kas tk := by
        rcases hA with h | ⟨h, i, v, h2, h3⟩
        · exact .inl h
        · exact .inr ⟨h, i, v, h2, r4 i v h3⟩
      obtain ⟨tk', V3, f1, f2, f3⟩ := app_many (es := 5) (xs := [.agg cv]) hA2 (by show kas.length + 1 ≤ 1073741824; omega) (hkas.all tmAgg) (by simp only [List.all_cons, List.all_nil, Bool.and_true, cells_agg, l1, l3]; rfl)
      have hq : eqAV (.sl kas tk) (.sl kas tk) = true := eqT _ _ (eqL (fun x a h => eqTm x h) hkas)
      have e : kids.take (j + 1) = kids.take j ++ [y] := by rw [List.take_add_one, hy]; rfl
      simp only [↓wpre, wall, simprocAttr, e2, e4, e6, e24, e25, e26, hdec, z2, hia, ci1, q3, c59, q3', l1, l2, l3, f1, hq]
      refine EQ_in ⟨j + 1, by omega, _, tk', by rw [List.getElem?_set, if_neg (by omega)]; exact q1', get_set q3', by rw [List.length_set]; omega, fun q hq => by rw [List.getElem?_set, if_neg (by omega), r2 _ (by omega)]; exact q5 q hq, Nat.le_trans q6 (Nat.le_trans r3 f3.1), fun i v h => f3.2.1 i v (r4 i v (q7 i v h)) fun ver h2 => ?_, e2, e4, e6, e24, e25, next_ixv (by omega), by omega, by rw [e]; exact hkas.append (.one hv), f2, fun i v h1 => ?_⟩
      · have := (List.getElem?_eq_some_iff.1 h).1
        have := ho i ver h2
        omega
      · rcases f3.2.2 i v h1 with ⟨v0, h⟩ | h
        · exact ho i v0 h
        · exact Nat.le_trans q6 (Nat.le_trans r3 h)
    · have hdec : decide ((j : Int) < ks.length) = false := by simpa using hge
      rw [List.take_of_length_le (by omega)] at hkas
      simp only [↓wpre, wall, simprocAttr, e25, e26, hdec]
      exact EQ_in ⟨kas, tk, q1, q3, q4, q5, q6, q7, e4, e6, hkas⟩
  clear e2 e4 e5 e6 E
  rintro E H1 V1 ⟨kas, tk, q1, q3, q4, q5, q6, q7, e4, e6, hkas⟩
  have hpk := tmsPure hkas
  have hkn := hkas.len
  have hpz := fun (s : ASt) => tm_pz (m := 17) (s := s) (k := k) (i := i) (n := nm) (t2 := tk) hpl hpk
  simp only [↓wpre, wall, simprocAttr, e4, e6, q1, q3, get_set q1]
  exact ⟨_, hpz _, Tm.Is.mk b1 (stripR_pure _ _ _) b3 b4 b5 b6 (by unfold lenB; omega) b8 hkas, _, _, tm_frz (lvsPure b8) hpk, by rw [List.length_set]; exact q4, fun q hq => by rw [List.getElem?_set, if_neg (by omega)]; exact q5 q hq, q6, q7⟩
end Go.Proofs.Eng
namespace Go.Proofs.Eng
open Go Go.Proofs
set_option maxRecDepth 100000
set_option maxHeartbeats 16000000
def MoveR (T : List Tm) (y : Tm) (e : Bool) (v : AV) : Prop := if e = true then GRes [] 0 24 v else GRes (nodesOf (y.enter T)) ((y.enter T).idxOf y : Nat) 0 v
theorem MoveR.eq {T : List Tm} {y : Tm} {e : Bool} {v : AV} (h : MoveR T y e v) : ∃ (N : List Nd) (i e' : Int), (∀ w, MoveR T y e w → GRes N i e' w) ∧ GRes N i e' v := by
 unfold MoveR at h ⊢
 by_cases hr : e = true
 ·simp only [hr, if_true] at h ⊢; exact ⟨_, _, _, fun _ h => h, h⟩
 ·simp only [hr] at h ⊢; exact ⟨_, _, _, fun _ h => h, h⟩
def LiftR (T : List Tm) (i b fr : Int) (v : AV) : Prop := ∃ bad : Bool, (bad = true ↔ i < 0 ∨ (T.length : Int) ≤ i ∨ fr < 0 ∨ b < -65536 ∨ 65536 < b) ∧ if bad = true then GRes [] 0 2 v else ∃ x z, T[i.toNat]? = some x ∧ T[0]? = some z ∧ MoveR T (x.mv (min fr 4294967294) (lvar z b (min fr 4294967294)) 0) (x.me (min fr 4294967294) (lbad b (min fr 4294967294)) 0) v
theorem LiftR.bad {T : List Tm} {i b fr : Int} (h : i < 0 ∨ (T.length : Int) ≤ i ∨ fr < 0 ∨ b < -65536 ∨ 65536 < b) : LiftR T i b fr (.tup [.agg [.sl [] .nil], .int 0, .int 2]) :=
 ⟨true, by simp [h], by rw [if_pos rfl]; exact ⟨_, rfl, [], .nil, rfl, rfl, Nat.zero_le _, trivial⟩⟩
end Go.Proofs.Eng
namespace Go.Proofs.Eng
open Go Go.Proofs
set_option maxRecDepth 100000
set_option maxHeartbeats 16000000
def encD (p : Nat × Nat) : AV × AV := (.int (p.1 : Nat), .mp p.2)
section
variable (ts : List Tm) (z : Tm)
end
structure PJ (ts : List Tm) (z : Tm) (ks : List Int) (bi mi dm bb tb lb L : Nat) (sc : Bool) (H : List AObj) (T : List Tm) : Prop where
 hb : H[bb]? = some (.cells false [.ptr bi 0])
 ht : ∃ tt, H[tb]? = some (.cells false [.sl (ints ks) tt])
 hl : H[lb]? = some (.cells false [.mp L])
 hz : T[0]? = some z
 hk : ∀ (m : Nat) (t : Tm), ts[m]? = some t → t ∈ T ∧ ks[m]? = some ((T.idxOf t : Nat) : Int)
 hD : ∃ D : List (Nat × Nat), H[L]? = some (.map (D.map encD)) ∧ (∀ p ∈ D, ∀ q ∈ D, p.2 = q.2 → p = q) ∧ ∀ p ∈ D, p.2 ≠ mi ∧ p.2 ≠ dm ∧ p.2 ≠ L ∧ ∃ es, H[p.2]? = some (.map es) ∧ DM 0 (lvar z (p.1 : Nat) 0) (lbad (p.1 : Nat) 0) T sc es
theorem PJ.stab {ts : List Tm} {z : Tm} {ks : List Int} {bi mi dm bb tb lb L base : Nat} {sc sc' : Bool} {H H' : List AObj} {T m : List Tm} (h1 : bb < base) (h2 : tb < base) (h3 : lb < base) (h4 : bb ≠ bi) (h5 : tb ≠ bi) (h6 : lb ≠ bi) (h7 : L ≠ mi) (h8 : L ≠ dm) (h : PJ ts z ks bi mi dm bb tb lb L sc H T) (hs : sc = true → sc' = true)
  (hc : ∀ (k : Nat) (fz : Bool) (c : List AV), k < base → k ≠ bi → H[k]? = some (.cells fz c) → H'[k]? = some (.cells fz c)) (hm : ∀ (k : Nat) (es : List (AV × AV)), k ≠ mi → k ≠ dm → H[k]? = some (.map es) → H'[k]? = some (.map es)) : PJ ts z ks bi mi dm bb tb lb L sc' H' (T ++ m) := by
 obtain ⟨a1, ⟨tt, a2⟩, a3, a4, a5, D, a6, a7, a8⟩ := h
 refine ⟨hc _ _ _ h1 h4 a1, ⟨tt, hc _ _ _ h2 h5 a2⟩, hc _ _ _ h3 h6 a3, by rw [List.getElem?_append_left (lt_of_get a4)]; exact a4, fun j t ht => ?_, D, hm _ _ h7 h8 a6, a7, fun p hp => ?_⟩
 ·obtain ⟨b1, b2⟩ := a5 j t ht
  exact ⟨List.mem_append_left _ b1, by rw [idx_pre b1]; exact b2⟩
 ·obtain ⟨b1, b2, b3, es, b4, b5⟩ := a8 p hp
  exact ⟨b1, b2, b3, es, hm _ _ b1 b2 b4, b5.grow hs⟩
end Go.Proofs.Eng
