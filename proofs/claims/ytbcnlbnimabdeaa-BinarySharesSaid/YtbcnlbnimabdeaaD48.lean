/- Levels and terms as they lie in the store. No conditions. -/
import Derived.Test.YtbcnlbnimabdeaaQ0
import Derived.Test.YtbcnlbnimabdeaaP3
import Derived.Test.YtbcnlbnimabdeaaG5
set_option linter.all false
set_option linter.deprecated false
set_option linter.unnecessarySimpa false
set_option linter.unusedVariables false
set_option linter.unusedSimpArgs false
set_option linter.defProp false
namespace Go.Proofs.Eng
open Go Go.Proofs
set_option maxRecDepth 100000
def varIs (v : Int × Int) (a : AV) : Prop := a = .agg [.int v.1, .int v.2] ∧ in64 v.1 ∧ in64 v.2
theorem varPure {v : Int × Int} {a : AV} (h : varIs v a) : pureAV a = true := by obtain ⟨rfl, _⟩ := h; rfl
theorem varAgg : AggR varIs 2 := ⟨fun {x a} h => by obtain ⟨rfl, _⟩ := h; exact ⟨_, rfl, rfl, rfl⟩, fun {x a} h => varPure h⟩
def Lv.Is (l : Lv) (a : AV) : Prop := ∃ t al, a = .agg [.int l.c, .sl al t] ∧ t.pure = true ∧ in64 l.c ∧ al.length ≤ lenB ∧ LIs varIs l.vs al
theorem lvPure {l : Lv} {a : AV} (h : l.Is a) : pureAV a = true := by
  obtain ⟨t, al, rfl, h1, _, _, h2⟩ := h
  have := h2.pure fun _ _ h => varPure h
  simp [pv_agg, pv_v, pv_sl, pvs_cons, pvs_nil, h1, this]
theorem lvAgg : AggR Lv.Is 2 := ⟨fun {x a} h => by obtain ⟨t, al, rfl, _⟩ := h; exact ⟨_, rfl, rfl, rfl⟩, fun {x a} h => lvPure h⟩
mutual
def Tm.Is : Tm → AV → Prop
  | .mk k i n ls kids, a => ∃ t1 t2 las kas, a = .agg [.int k, .int i, .str n, .sl las t1, .sl kas t2] ∧ t1.pure = true ∧ t2.pure = true ∧ in64 k ∧ in64 i ∧ n.size ≤ lenB ∧ las.length ≤ lenB ∧ kas.length ≤ lenB ∧ LIs Lv.Is ls las ∧ Tm.IsL kids kas
def Tm.IsL : List Tm → List AV → Prop
  | [], [] => True
  | e :: es, a :: al => e.Is a ∧ Tm.IsL es al
  | _, _ => False
end
theorem tmsL_iff : ∀ {l : List Tm} {al : List AV}, Tm.IsL l al ↔ LIs Tm.Is l al
  | [], [] => by simp [Tm.IsL, LIs]
  | e :: es, a :: al => by simp only [Tm.IsL, LIs, tmsL_iff (l := es)]
  | [], _ :: _ => by simp [Tm.IsL, LIs]
  | _ :: _, [] => by simp [Tm.IsL, LIs]
theorem Tm.Is.opn {k i : Int} {n : ByteArray} {ls : List Lv} {kids : List Tm} {a : AV} (h : (Tm.mk k i n ls kids).Is a) : ∃ t1 t2 las kas, a = .agg [.int k, .int i, .str n, .sl las t1, .sl kas t2] ∧ t1.pure = true ∧ t2.pure = true ∧ in64 k ∧ in64 i ∧ n.size ≤ lenB ∧ las.length ≤ lenB ∧ kas.length ≤ lenB ∧ LIs Lv.Is ls las ∧ LIs Tm.Is kids kas := by
  simp only [Tm.Is, tmsL_iff] at h; exact h
theorem Tm.Is.mk {k i : Int} {n : ByteArray} {ls : List Lv} {kids : List Tm} {t1 t2 : Tl} {las kas : List AV} (h1 : t1.pure = true) (h2 : t2.pure = true) (h3 : in64 k) (h4 : in64 i) (h5 : n.size ≤ lenB) (h6 : las.length ≤ lenB) (h7 : kas.length ≤ lenB) (h8 : LIs Lv.Is ls las) (h9 : LIs Tm.Is kids kas) : (Tm.mk k i n ls kids).Is (.agg [.int k, .int i, .str n, .sl las t1, .sl kas t2]) := by
  simp only [Tm.Is, tmsL_iff]; exact ⟨t1, t2, las, kas, rfl, h1, h2, h3, h4, h5, h6, h7, h8, h9⟩
theorem lvsPure {l : List Lv} {al : List AV} (h : LIs Lv.Is l al) : pureAVs al = true := h.pure fun _ _ h => lvPure h
theorem tmPure (e : Tm) : ∀ {a}, e.Is a → pureAV a = true := by
  induction e using Tm.ind with
  | h k i n ls kids ih =>
    intro a h
    obtain ⟨t1, t2, las, kas, rfl, h1, h2, _, _, _, _, _, h8, h9⟩ := h.opn
    have := LIs.pure (R := fun x a => pureAV a = true) (fun _ _ h => h) (h9.mono fun x hx a h => ih x hx h)
    simp [pv_agg, pv_v, pv_sl, pvs_cons, pvs_nil, lvsPure h8, h1, h2, this]
theorem tmAgg : AggR Tm.Is 5 := ⟨fun {x a} h => by
    cases x
    obtain ⟨t1, t2, las, kas, rfl, _⟩ := h.opn
    exact ⟨_, rfl, rfl, rfl⟩, fun {x a} h => tmPure x h⟩
theorem tmsPure {l : List Tm} {al : List AV} (h : LIs Tm.Is l al) : pureAVs al = true := h.pure fun x _ h => tmPure x h
def Tm.zero : Tm := .mk 0 0 ⟨#[]⟩ [] []
/-- A block that holds a term: what is loaded of it. -/
theorem tmCells {e : Tm} {a : AV} (h : e.Is a) : ∃ c, a = .agg c ∧ c.length = 5 ∧ c.take 5 = c ∧ c.all oneCell = true := by
  obtain ⟨c, rfl, h1, h2⟩ := tmAgg.cells h
  exact ⟨c, rfl, h1, List.take_of_length_le (by omega), h2⟩
end Go.Proofs.Eng
