/- An entry is read: its fields. No conditions beyond those in the theorems. -/
import Derived.Test.YtbcnlbnimabdeaaU3
set_option linter.all false
set_option linter.deprecated false
set_option linter.unnecessarySimpa false
set_option linter.unusedVariables false
set_option linter.unusedSimpArgs false
set_option linter.defProp false
namespace Go.Proofs.Eng
open Go Go.Proofs
set_option maxRecDepth 100000
set_option maxHeartbeats 8000000
theorem getS_rText (s : List UInt8) : rText s = (getS s).map fun x => (x.1, s.drop x.2) := by
  unfold rText getS rN
  cases getN s with
  | none => rfl
  | some x =>
    simp only [Option.map_some, Option.bind_some, List.length_drop]
    split
    · rfl
    · simp only [Option.map_some, List.drop_drop]
theorem eqAVs_all : ∀ {l : List AV}, (∀ a ∈ l, eqAV a a = true) → eqAVs l l = true
  | [], _ => by simp [eqAVs]
  | x :: l, h => by
    simp only [eqAVs, Bool.and_eq_true]
    exact ⟨h x (by simp), eqAVs_all fun a ha => h a (by simp [ha])⟩
theorem LIs.allR {α : Type} {R : α → AV → Prop} {P : AV → Prop} (hP : ∀ x a, R x a → P a) : ∀ {l : List α} {al : List AV}, LIs R l al → ∀ a ∈ al, P a
  | [], [], _ => fun a h => by simp at h
  | x :: l, b :: al, h => fun a ha => by
    simp only [LIs] at h
    rcases List.mem_cons.1 ha with rfl | ha
    · exact hP _ _ h.1
    · exact LIs.allR hP h.2 a ha
  | [], _ :: _, h => by simp [LIs] at h
  | _ :: _, [], h => by simp [LIs] at h
theorem eq_var {v : Int × Int} {a : AV} (h : varIs v a) : eqAV a a = true := by
  obtain ⟨rfl, _⟩ := h
  simp [eqAV, eqAVs, eqV]
theorem eq_lv {l : Lv} {a : AV} (h : l.Is a) : eqAV a a = true := by
  obtain ⟨t, al, rfl, _, _, _, h2⟩ := h
  have := eqAVs_all (LIs.allR (fun _ _ h => eq_var h) h2)
  simp [eqAV, eqAVs, eqV, this]
theorem eq_lvs {l : List Lv} {al : List AV} {t : Tl} (h : LIs Lv.Is l al) : eqAV (.sl al t) (.sl al t) = true := by
  have := eqAVs_all (LIs.allR (fun _ _ h => eq_lv h) h)
  simp [eqAV, this]
theorem level_b {i : Nat} {s : ByteArray} {p : Nat} {B H : List AObj} (hB : BR B H i (rdr s p)) (hp : p ≤ s.size) (hs : s.size ≤ capB) (Z : List AObj) (T : List Nat) :
    (∃ l c al t B' q G T', rLv (s.toList.drop p) = some (l, s.toList.drop q) ∧ p < q ∧ q ≤ s.size ∧ l.Is (.agg [.int c, .sl al t]) ∧ BR B' H i (rdr s q) ∧ Keep T.length T T' ∧ ∀ K KP, CW (run md pfs) md false ⟨B ++ Z, T⟩ 59 [.ptr i 0] K KP () = K (.agg [.int c, .sl al t]) ⟨B' ++ (Z ++ G), T'⟩) ∨
    (∃ B' q G T', rLv (s.toList.drop p) = none ∧ BR B' H i (rdr s q) ∧ ∀ K KP, CW (run md pfs) md false ⟨B ++ Z, T⟩ 59 [.ptr i 0] K KP () = KP failV ⟨B' ++ (Z ++ G), T'⟩) := by
  rcases (level_sh (T := T) (app_get_of hB.get Z) hp hs).call rfl with ⟨v, _, ⟨l, B2, q, G, T', h1, h2, h3, h4, h5, rfl, h6, h7⟩, hc⟩ | ⟨v, _, ⟨rfl, h1, B2, q, G, T', rfl, h6⟩, hc⟩
  · obtain ⟨t, al, rfl, _⟩ := id h4
    rw [h6.eq, hB.app, List.append_assoc] at hc
    exact Or.inl ⟨l, _, al, t, _, q, G, T', h1, h2, h3, h4, hB.up _, h7, hc⟩
  · rw [h6.eq, hB.app, List.append_assoc] at hc
    exact Or.inr ⟨_, q, G, T', h1, hB.up _, hc⟩
theorem text_b {i : Nat} {s : ByteArray} {p : Nat} {B H : List AObj} (hB : BR B H i (rdr s p)) (hp : p ≤ s.size) (hs : s.size ≤ capB) (Z : List AObj) (T : List Nat) :
    (∃ a B' q, rText (s.toList.drop p) = some (a, s.toList.drop q) ∧ p ≤ q ∧ q ≤ s.size ∧ a.length ≤ s.size ∧ BR B' H i (rdr s q) ∧ ∀ K KP, CW (run md pfs) md false ⟨B ++ Z, T⟩ 49 [.ptr i 0] K KP () = K (.str (strOf a)) ⟨B' ++ Z, T⟩) ∨
    (∃ B' q, rText (s.toList.drop p) = none ∧ BR B' H i (rdr s q) ∧ ∀ K KP, CW (run md pfs) md false ⟨B ++ Z, T⟩ 49 [.ptr i 0] K KP () = KP failV ⟨B' ++ Z, T⟩) := by
  rcases (text_sh (T := T) (app_get_of hB.get Z) hp hs).call rfl with ⟨_, _, ⟨a, k, h1, h2, rfl, rfl⟩, hc⟩ | ⟨_, _, ⟨h1, rfl, k, rfl, hk⟩, hc⟩
  · rw [hB.app] at hc
    refine Or.inl ⟨a, _, p + k, by rw [getS_rText, h1]; simp, by omega, h2, ?_, hB.up _, hc⟩
    unfold getS at h1
    obtain ⟨x, hx, h3⟩ := Option.bind_eq_some_iff.1 h1
    split at h3
    · cases h3
    · simp only [Option.some.injEq, Prod.mk.injEq] at h3
      rw [← h3.1, List.length_take, List.length_drop, List.length_drop, toList_len]; omega
  · rw [hB.app] at hc
    exact Or.inr ⟨_, k, by rw [getS_rText, h1]; rfl, hB.up _, hc⟩
/-- The blocks of an entry whose fields are read. -/
abbrev blk1 (k : Nat) (pi : Int) (nm : ByteArray) (las : List AV) (tl : Tl) : AObj := .cells false [.int k, .int pi, .str nm, .sl las tl, .sl [] .nil, .int 1, .int 0]
theorem kst_start {i : Nat} {s : ByteArray} {H : List AObj} {T : List Nat} {tab : List AV} {tt : Tl} {k : Nat} {pi : Int} {nm : ByteArray} {ls : List Lv} {q : Nat} {E : Env} {B Z : List AObj} {las : List AV} {tl : Tl} {T' : List Nat} (e0 : E 0 = .ptr i 0) (e1 : E 1 = .sl tab tt) (e4 : E 4 = .ptr H.length 0) (e5 : E 5 = .ptr (H.length + 1) 0) (e6 : E 6 = .ptr (H.length + 1) 0) (hB : BR B H i (rdr s q)) (hL : LIs Lv.Is ls las) (hl : las.length ≤ lenB) (hT : Keep T.length T T') :
    KSt i s H T tab tt k pi nm ls [] q E (B ++ (z7 :: blk1 k pi nm las tl :: Z)) T' := by
  refine ⟨B, Z, las, tl, [], .nil, ?_, e0, e1, e4, e5, e6, hB, hL, hl, trivial, by simp, Or.inl ⟨rfl, rfl⟩, hT, fun x h => by simp at h, by simp [tszL], by simp [tdpL]⟩
  rw [tszL, tdpL]; rfl
def tail43 : PC := match pf43.body with | .seq _ (.seq _ (.seq _ (.seq _ (.seq _ r)))) => r | _ => .skip
def EntP (i : Nat) (s : ByteArray) (p : Nat) (H : List AObj) (T : List Nat) (Tb : List Tm) (v : AV) (s' : ASt) : Prop :=
  ∃ t B q G T', rEntry Tb (s.toList.drop p) = some (t, s.toList.drop q) ∧ p < q ∧ q ≤ s.size ∧ EIs t v ∧ s' = ⟨B ++ G, T'⟩ ∧ BR B H i (rdr s q) ∧ Keep T.length T T'
def EntB (i : Nat) (s : ByteArray) (p : Nat) (H : List AObj) (Tb : List Tm) (v : AV) (s' : ASt) : Prop := v = failV ∧ rEntry Tb (s.toList.drop p) = none ∧ Lost i s H s'
theorem tail_run {i : Nat} {s : ByteArray} {p q1 : Nat} {H : List AObj} {T : List Nat} {Tb : List Tm} {tab : List AV} {tt : Tl} (hs : s.size ≤ capB) (hTb : LIs EIs Tb tab) (htb : tab.length ≤ lenB) {k : Nat} {pi : Int} {nm : ByteArray} {ls : List Lv} {q : Nat} (hk : k ≤ mostN) (hpi : in64 pi) (hnm : nm.size ≤ lenB)
    (r1 : rN (s.toList.drop p) = some (k, s.toList.drop q1)) (rp : rPay k (s.toList.drop q1) = some ((pi, nm, ls), s.toList.drop q)) (hpq : p < q) (hqs : q ≤ s.size)
    {E : Env} {B Z : List AObj} {las : List AV} {tl : Tl} {T' : List Nat} (e0 : E 0 = .ptr i 0) (e1 : E 1 = .sl tab tt) (e4 : E 4 = .ptr H.length 0) (e5 : E 5 = .ptr (H.length + 1) 0) (e6 : E 6 = .ptr (H.length + 1) 0) (hB : BR B H i (rdr s q)) (hL : LIs Lv.Is ls las) (hl : las.length ≤ lenB) (hT : Keep T.length T T') :
    W (run md pfs) md tail43 ⟨tmE 130 E, [], ⟨B ++ (z7 :: blk1 k pi nm las tl :: Z), T'⟩⟩ (SQ [.c 4 true 7] (EntP i s p H T Tb) (EntB i s p H Tb)) () := by
  have f := hB.f
  obtain ⟨_, rfl, hc⟩ := (kids_ret k).call rfl (by simp [pvs_cons, pvs_nil, pv_v])
  have hmax : (if kidsN k > 0 then kidsN k else 0) = (((kidsN k).toNat : Nat) : Int) := by
    split <;> omega
  have hE : rEntry Tb (s.toList.drop p) = (rKids Tb (kidsN k).toNat (s.toList.drop q)).bind fun l => if (Tm.mk k pi nm ls l.1).right = true ∧ (Tm.mk k pi nm ls l.1).sz ≤ 4096 ∧ (Tm.mk k pi nm ls l.1).dp ≤ 200 then some (Tm.mk k pi nm ls l.1, l.2) else none := by
    rw [rEntry, r1, Option.bind_some]; simp only; rw [rp, Option.bind_some]
  simp only [tail43, pf43, ↓wpre, wset, wcore, ne_eq, if_true, if_false, exists_eq_left', true_implies, false_implies, exists_const, exists_eq_right, binA, intA, loadA, storeA, pickC, setAt, mapO, argsE, X.isC, resA, oneA, unA, boundA, eqiA, eqsA, fillA, fillE, ASt.fz, strA, Nat.reduceEqDiff, Nat.reduceLT, ↓reduceIte, reduceCtorEq, Nat.reduceAdd, Nat.reduceLeDiff, Int.reduceBEq, Int.reduceBNe, Int.reduceLT, Int.reduceLE, Int.reduceGT, Int.reduceGE, Nat.reduceDiv, Nat.reduceMul, Nat.reduceBEq, Nat.reduceMod, Nat.reduceSub, e0, e6, f, hc, hmax]
  refine kid_loop hs hTb htb (k := k) (pi := pi) (nm := nm) (ls := ls) (m := (kidsN k).toNat) (q0 := q) (kids3 _) hqs ?_ ?_ (kst_start e0 e1 e4 e5 e6 hB hL hl hT) rfl rfl
  · intro E H' T' kids q2 hK hR hq2 hq3
    rw [hR, Option.bind_some] at hE
    simp only at hE
    simp only [BQ_e, LQ_n]
    refine ent_end hk hpi hnm hK (fun h1 h2 h3 v B G T' hv hB hT => ?_) fun h s' hl => ?_
    · exact ⟨_, B, q2, G, T', by rw [hE, if_pos ⟨h1, h2, h3⟩], by omega, hq3, hv, rfl, hB, hT⟩
    · exact ⟨rfl, by rw [hE, if_neg h], hl⟩
  · intro tm s' hR hl
    simp only [BQ_p, LQ_p, SQ_pan, pz_fail, fr_fail]
    exact ⟨trivial, _, rfl, rfl, by rw [hE, hR]; rfl, hl⟩
end Go.Proofs.Eng
