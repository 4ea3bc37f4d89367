/- The program's closure; compositions that are checked. No conditions beyond those in the theorems. -/
import Derived.Test.YtodnkbnbjhcikaaDoorH6
set_option linter.all false
set_option linter.deprecated false
set_option linter.unnecessarySimpa false
set_option linter.unusedVariables false
set_option linter.unusedSimpArgs false
set_option linter.defProp false
namespace Go.Proofs.Eng
open Go Go.Proofs
set_option maxRecDepth 100000
set_option maxHeartbeats 16000000
structure Ok (c : Cl) : Prop where
  rows : c.m.length ≤ 16
  cols : ∀ r ∈ c.m, 1 ≤ r.length ∧ r.length ≤ 16
theorem Good.ok {ar : Int → Nat} {c : Cl} (h : Good ar c) : Ok c := ⟨by rw [h.wm.len]; exact h.r1.2, fun r hr => by rw [h.wm.row r hr]; exact h.c1⟩
def closL (l : List Cl) : List Cl × Int :=
  if checkR l = 0 then match cloQ l with
    | some q => (srt q, 0)
    | none => ([], 6)
  else ([], checkR l)
def ResL (r : List Cl × Int) (v : AV) : Prop := ∃ al t, v = .tup [.sl al t, .int r.2] ∧ LIs ClIs r.1 al ∧ t.pure = true
theorem check_sm {l : List Cl} (h : checkR l = 0) : ∀ c ∈ l, Sm c := by
  obtain ⟨ar, hg⟩ := check_good h
  exact fun c hc => form_sm (hg c hc).form
theorem closureT_ret {l : List Cl} {al : List AV} {t : Tl} (h : LIs ClIs l al) (ht : t.pure = true) (hc : checkR l = 0) (hl : l.length ≤ 1000) : Out md pfs 30 [.sl al t] (· = closureV l) fun _ => False := by
  have hv : closureO [.sl al t] ⟨[], []⟩ = some (closureV l, ⟨[], []⟩) := by
    simp only [closureO, clsOf_is h (check_sm hc)]
    rw [if_pos ⟨ht, hc, hl⟩]
  exact ⟨_, _, _, run_ora (f := 30) (pf := ⟨0, [], .ora closureO⟩) (o := closureO) (by unfold pfs; rw [if_neg (by decide), if_pos rfl]) rfl hv, by simp only [Outc.purify]; rw [purify_pure (closureV_pure _)]; rfl, rfl⟩
theorem mkAV_good {ar : Int → Nat} {c : Cl} (h : Good ar c) (hf : in64 c.f) (ht : in64 c.t) : ClIs c (mkAV c) := by
  have hr := h.r1.2
  have hc := h.c1.2
  refine ⟨_, _, rfl, ?_, rfl, by rw [List.length_map, h.wm.len]; unfold lenB; omega, hf, ht⟩
  have key : ∀ m : List (List Int), (∀ r ∈ m, r.length = ar c.f) → (∀ r ∈ m, ∀ x ∈ r, 0 ≤ x ∧ x ≤ 2) → LIs RowIs m (m.map fun r => .sl (ints r) .al) := by
    intro m
    induction m with
    | nil => intro _ _; trivial
    | cons r m ih =>
      intro h1 h2
      exact ⟨⟨_, rfl, rfl, by rw [h1 r (by simp)]; unfold lenB; omega, fun n hn => by have := h2 r (by simp) n hn; unfold in64; omega⟩, ih (fun r hr => h1 r (by simp [hr])) fun r hr => h2 r (by simp [hr])⟩
  exact key c.m h.wm.row h.wm.ent
theorem gen_in {l : List Cl} (h : ∀ c ∈ l, in64 c.f ∧ in64 c.t) {x : Cl} (hx : Gen l x) : in64 x.f ∧ in64 x.t := by
  induction hx with
  | base hd => exact h _ hd
  | step hx hd e ih => exact ⟨ih.1, (h _ hd).2⟩
theorem lis_in : ∀ {l : List Cl} {al : List AV}, LIs ClIs l al → ∀ c ∈ l, in64 c.f ∧ in64 c.t
  | [], _, _, c, hc => by simp at hc
  | x :: l, [], h, _, _ => by simp [LIs] at h
  | x :: l, a :: al, h, c, hc => by
    simp only [LIs] at h
    rcases List.mem_cons.1 hc with rfl | hc
    · obtain ⟨_, _, _, _, _, _, h4, h5⟩ := h.1.of; exact ⟨h4, h5⟩
    · exact lis_in h.2 c hc
theorem lis_mk {ar : Int → Nat} : ∀ {q : List Cl}, (∀ x ∈ q, Good ar x ∧ in64 x.f ∧ in64 x.t) → LIs ClIs q (q.map mkAV)
  | [], _ => trivial
  | x :: q, h => by
    obtain ⟨h1, h2, h3⟩ := h x (by simp)
    exact ⟨mkAV_good h1 h2 h3, lis_mk fun y hy => h y (by simp [hy])⟩
theorem closure_ret {l : List Cl} {al : List AV} {t : Tl} (h : LIs ClIs l al) (ht : t.pure = true) (hl : al.length ≤ 1000) : Out md pfs 14 [.sl al t] (ResL (closL l)) fun _ => False := by
  have hla := h.len
  have hpa : pureAVs [AV.sl al t] = true := by simp [pvs_cons, pvs_nil, pv_sl, ht, clsPure h]
  obtain ⟨_, rfl, c29⟩ := (check_ret (t := t) h ht (by unfold lenB; omega)).call rfl hpa
  refine out_of pf14_is (Nat.le_of_ble_eq_true rfl) ?_
  by_cases hck : checkR l = 0
  case neg =>
    have d1 : (checkR l != 0) = true := ibne hck
    have hr : closL l = ([], checkR l) := if_neg hck
    simp only [pf14, ↓wpre, wset, wcore, wext, ne_eq, if_true, if_false, exists_eq_left', true_implies, false_implies, exists_const, exists_eq_right, binA, intA, loadA, storeA, pickC, setAt, mapO, argsE, X.isC, resA, oneA, unA, boundA, eqiA, eqsA, fillA, fillE, ASt.fz, strA, simprocAttr, c29, d1]
    exact ⟨[], .nil, by rw [hr], by rw [hr]; trivial, rfl⟩
  have d1 : (checkR l != 0) = false := ibne' hck
  obtain ⟨ar, hg⟩ := check_good hck
  have hr : closL l = match cloQ l with
    | some q => (srt q, 0)
    | none => ([], 6) := if_pos hck
  obtain ⟨_, rfl, c30⟩ := (closureT_ret (t := t) h ht hck (by omega)).call rfl hpa
  cases hq : cloQ l with
  | none =>
    rw [hq] at hr
    have hv : closureV l = .tup [.sl [] .nil, .bool false] := by unfold closureV; rw [hq]
    rw [hv] at c30
    simp only [pf14, ↓wpre, wset, wcore, wext, ne_eq, if_true, if_false, exists_eq_left', true_implies, false_implies, exists_const, exists_eq_right, binA, intA, loadA, storeA, pickC, setAt, mapO, argsE, X.isC, resA, oneA, unA, boundA, eqiA, eqsA, fillA, fillE, ASt.fz, strA, simprocAttr, c29, d1, c30]
    exact ⟨[], .nil, by rw [hr], by rw [hr]; trivial, rfl⟩
  | some q =>
    rw [hq] at hr
    have hv : closureV l = .tup [.sl ((srt q).map mkAV) .none, .bool true] := by unfold closureV; rw [hq]
    have hclo := clo_of hg hq
    obtain ⟨s1, s2⟩ := srt_sorted hclo.good
    have hL : LIs ClIs (srt q) ((srt q).map mkAV) := lis_mk (ar := ar) fun x hx => by
      have hx := (s2 x).1 hx
      exact ⟨hclo.good x hx, gen_in (lis_in h) (hclo.gen x hx)⟩
    rw [hv] at c30
    simp only [pf14, ↓wpre, wset, wcore, wext, ne_eq, if_true, if_false, exists_eq_left', true_implies, false_implies, exists_const, exists_eq_right, binA, intA, loadA, storeA, pickC, setAt, mapO, argsE, X.isC, resA, oneA, unA, boundA, eqiA, eqsA, fillA, fillE, ASt.fz, strA, simprocAttr, c29, d1, c30]
    rw [purify_pure (by simp [pv_sl, clsPure hL, Tl.pure])]
    exact ⟨_, rfl, _, .none, by rw [hr], by rw [hr]; exact hL, rfl⟩
theorem zeroIs : ClIs ⟨0, 0, []⟩ (.agg [.int 0, .int 0, .sl [] .nil]) := ⟨[], .nil, rfl, trivial, rfl, Nat.zero_le _, (by unfold in64; decide : in64 0), (by unfold in64; decide : in64 0)⟩
end Go.Proofs.Eng
