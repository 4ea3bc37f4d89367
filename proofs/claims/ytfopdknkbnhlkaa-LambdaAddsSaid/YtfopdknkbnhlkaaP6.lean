/- P6: what functions of the program return. No conditions beyond those in the theorems. -/
import Derived.Test.YtfopdknkbnhlkaaF3
set_option linter.all false
set_option linter.deprecated false
set_option linter.unnecessarySimpa false
set_option linter.unusedVariables false
set_option linter.unusedSimpArgs false
set_option linter.defProp false
namespace Go.Proofs.Eng
open Go Go.Proofs
set_option maxRecDepth 100000
theorem adds_small : ((List.range 20).all fun a => (List.range 20).all fun b => (plusP a b).few && (plusP a b).check == 0) = true := by kernel_rfl
theorem adds_few {a b : Nat} (ha : a < 20) (hb : b < 20) : (plusP a b).few = true ∧ (plusP a b).check = 0 := by
  have h := adds_small
  rw [List.all_eq_true] at h
  have h := h a (List.mem_range.2 ha)
  rw [List.all_eq_true] at h
  have h := h b (List.mem_range.2 hb)
  simpa using h
theorem num_mv (g : Int → Int → Ex) (d : Int) : ∀ n, (Ex.num n).mv g d = .num n := by
  intro n
  induction n generalizing d with
  | zero => rw [Ex.num, Ex.mv, if_neg (by decide), mvL]
  | succ n ih => rw [Ex.num, Ex.mv, if_neg (by decide), mvL, mvL, ih]
theorem num_lift (b : Int) (n : Nat) : (Ex.num n).lift b = .num n := by
  unfold Ex.lift
  rw [num_mv, ite_self]
theorem num_val : ∀ n, (Ex.num n).val = true
  | 0 => rfl
  | n + 1 => by rw [Ex.num, Ex.val, if_neg (by decide), if_pos (by decide), valL, valL, num_val n, Bool.and_self]
theorem num_sz : ∀ n, (Ex.num n).sz = n + 1
  | 0 => rfl
  | n + 1 => by simp only [Ex.num, Ex.sz, szL, num_sz n]
abbrev plusGs : List Gl := [(plusN, plusBody)]
abbrev sucE (x : Ex) : Ex := .mk 3 1 succN [] [x]
abbrev caseE (x y z : Ex) : Ex := .mk 4 0 ⟨#[]⟩ [0, 1] [x, y, z]
abbrev callE (f x y : Ex) : Ex := nodeE 2 [nodeE 2 [f, x], y]
theorem app_in {gs : List Gl} {f f' x : Ex} (h1 : f.val = false) (h2 : f.step gs = .ok f') : (nodeE 2 [f, x]).step gs = .ok (nodeE 2 [f', x]) := by
  simp [nodeE, Ex.step, stepL, h1, h2]
theorem app_red {gs : List Gl} {f x : Ex} (h1 : f.val = true) (h2 : x.val = true) : (nodeE 2 [f, x]).step gs = (nodeE 2 [f, x]).red := by
  simp [nodeE, Ex.step, stepL, h1, h2]
theorem case_red {gs : List Gl} {x y z : Ex} (h1 : x.val = true) : (caseE x y z).step gs = (caseE x y z).red := by
  simp [Ex.step, stepL, h1]
theorem suc_in {gs : List Gl} {x x' : Ex} (h1 : x.val = false) (h2 : x.step gs = .ok x') : (sucE x).step gs = .ok (sucE x') := by
  simp [Ex.step, stepL, h1, h2]
theorem suc_val (x : Ex) : (sucE x).val = x.val := by simp [Ex.val, valL]
theorem add0 (x y : Ex) : (callE plusG x y).step plusGs = .ok (callE plusBody x y) := rfl
theorem add1 (n : Nat) (y : Ex) : (callE plusBody (.num n) y).step plusGs = .ok (nodeE 2 [nodeE 1 [caseE (.num n) (.var 0) (sucE plusCall)], y]) := by
  refine app_in rfl ?_
  rw [app_red rfl (num_val n)]
  have : (nodeE 2 [plusBody, .num n]).red = .ok (nodeE 1 [caseE ((Ex.num n).lift 1) (.var 0) (sucE plusCall)]) := rfl
  rw [this, num_lift]
theorem add2 (n m : Nat) : (nodeE 2 [nodeE 1 [caseE (.num n) (.var 0) (sucE plusCall)], .num m]).step plusGs = .ok (caseE (.num n) (.num m) (sucE (callE plusG (.var 0) (.num m)))) := by
  rw [app_red rfl (num_val m)]
  have : (nodeE 2 [nodeE 1 [caseE (.num n) (.var 0) (sucE plusCall)], .num m]).red = .ok (caseE ((Ex.num n).mv (substG [.num m]) 0) ((Ex.num m).lift 0) (sucE (callE plusG (.var 0) ((Ex.num m).lift 1)))) := rfl
  rw [this, num_mv, num_lift, num_lift]
theorem add3z (m : Nat) (z : Ex) : (caseE (.num 0) (.num m) z).step plusGs = .ok (.num m) := by
  rw [case_red rfl]
  have : (caseE (.num 0) (.num m) z).red = .ok ((Ex.num m).mv (substG []) 0) := rfl
  rw [this, num_mv]
theorem add3s (n m : Nat) : (caseE (.num (n + 1)) (.num m) (sucE (callE plusG (.var 0) (.num m)))).step plusGs = .ok (sucE (callE plusG (.num n) (.num m))) := by
  rw [case_red (num_val _)]
  have : (caseE (.num (n + 1)) (.num m) (sucE (callE plusG (.var 0) (.num m)))).red = .ok (sucE (callE plusG ((Ex.num n).lift 0) ((Ex.num m).mv (substG [.num n]) 0))) := rfl
  rw [this, num_mv, num_lift]
def sucs : Nat → Ex → Ex
  | 0, x => x
  | k + 1, x => sucE (sucs k x)
theorem sucs_val (k : Nat) (x : Ex) : (sucs k x).val = x.val := by
  induction k with
  | zero => rfl
  | succ k ih => rw [sucs, suc_val, ih]
theorem sucs_step {gs : List Gl} (k : Nat) {x x' : Ex} (h1 : x.val = false) (h2 : x.step gs = .ok x') : (sucs k x).step gs = .ok (sucs k x') := by
  induction k with
  | zero => exact h2
  | succ k ih => exact suc_in (by rw [sucs_val, h1]) ih
theorem sucs_sz (k : Nat) (x : Ex) : (sucs k x).sz = k + x.sz := by
  induction k with
  | zero => simp [sucs]
  | succ k ih => rw [sucs, Ex.sz, szL, szL, ih]; omega
theorem sucs_suc (k : Nat) (x : Ex) : sucs k (sucE x) = sucs (k + 1) x := by
  induction k with
  | zero => rfl
  | succ k ih => rw [sucs, ih]; rfl
theorem sucs_num (k m : Nat) : sucs k (.num m) = .num (k + m) := by
  induction k with
  | zero => rw [Nat.zero_add]; rfl
  | succ k ih => rw [sucs, ih, Nat.add_right_comm]; rfl
theorem ev_go {gs : List Gl} {r k : Nat} {x x' : Ex} (hs : k + x.sz ≤ 4096) (h1 : x.val = false) (h2 : x.step gs = .ok x') : ev gs (r + 1) (sucs k x) = ev gs r (sucs k x') := by
  have hz := size_eq (sucs k x) (by rw [sucs_sz]; omega)
  rw [sucs_sz] at hz
  rw [ev_eq, if_neg (by simp; omega), if_neg (by rw [sucs_val, h1]; decide)]
  simp only [sucs_step k h1 h2]
theorem ev_end {gs : List Gl} {k : Nat} {x : Ex} (hs : k + x.sz ≤ 4096) (h1 : x.val = false) : ev gs 0 (sucs k x) = .error 11 := by
  have hz := size_eq (sucs k x) (by rw [sucs_sz]; omega)
  rw [sucs_sz] at hz
  rw [ev_eq, if_neg (by simp; omega), if_neg (by rw [sucs_val, h1]; decide)]
theorem szs (n m : Nat) (x y z : Ex) (hx : x.sz = n + 1) (hy : y.sz = m + 1) : (callE plusG x y).sz = n + m + 5 ∧ (callE plusBody x y).sz ≤ n + m + 30 ∧ (nodeE 2 [nodeE 1 [caseE x (.var 0) (sucE plusCall)], y]).sz ≤ n + m + 30 ∧ (caseE x y (sucE (callE plusG (.var 0) y))).sz ≤ n + 2 * m + 30 := by
  have h1 : plusG.sz = 1 := rfl
  have h2 : plusBody.sz ≤ 20 := by decide
  have h3 : (Ex.var 0).sz = 1 := rfl
  have h4 : (sucE plusCall).sz ≤ 10 := by decide
  simp only [callE, nodeE, caseE, sucE, Ex.sz, szL] at *
  omega
theorem add_three {n m k r : Nat} (hn : n ≤ 100) (hm : m ≤ 100) (hk : k ≤ 100) : ev plusGs (r + 3) (sucs k (callE plusG (.num n) (.num m))) = ev plusGs r (sucs k (caseE (.num n) (.num m) (sucE (callE plusG (.var 0) (.num m))))) := by
  have hs := szs n m (.num n) (.num m) .zero (num_sz n) (num_sz m)
  rw [ev_go (r := r + 2) (by omega) rfl (add0 _ _), ev_go (r := r + 1) (by omega) rfl (add1 _ _), ev_go (r := r) (by omega) rfl (add2 _ _)]
theorem add_go {m : Nat} (hm : m ≤ 100) : ∀ (n k r : Nat), n + k ≤ 100 → ev plusGs (r + (4 * n + 3)) (sucs k (callE plusG (.num n) (.num m))) = ev plusGs r (sucs (k + n) (caseE (.num 0) (.num m) (sucE (callE plusG (.var 0) (.num m)))))
  | 0, k, r, h => add_three (n := 0) (by omega) hm (by omega)
  | n + 1, k, r, h => by
    have hs := szs (n + 1) m (.num (n + 1)) (.num m) .zero (num_sz _) (num_sz m)
    rw [show r + (4 * (n + 1) + 3) = (r + (4 * n + 3) + 1) + 3 from by omega, add_three (by omega) hm (by omega), ev_go (by omega) rfl (add3s n m), sucs_suc, add_go hm n (k + 1) r (by omega)]
    rw [show k + 1 + n = k + (n + 1) from by omega]
theorem add_less {n m : Nat} (hn : n ≤ 100) (hm : m ≤ 100) : ev plusGs (4 * n + 3) (plusP n m).main = .error 11 := by
  have := add_go hm n 0 0 (by omega)
  rw [Nat.zero_add] at this
  have hs := szs 0 m (.num 0) (.num m) .zero (num_sz _) (num_sz m)
  rw [show (plusP n m).main = sucs 0 (callE plusG (.num n) (.num m)) from rfl, this]
  exact ev_end (by omega) rfl
theorem add_all {n m : Nat} (hn : n ≤ 100) (hm : m ≤ 100) : ev plusGs (4 * n + 4) (plusP n m).main = .ok (.num (n + m)) := by
  have := add_go hm n 0 1 (by omega)
  have hs := szs 0 m (.num 0) (.num m) .zero (num_sz _) (num_sz m)
  rw [show (plusP n m).main = sucs 0 (callE plusG (.num n) (.num m)) from rfl, show 4 * n + 4 = 1 + (4 * n + 3) from by omega, this, ev_go (r := 0) (by omega) rfl (add3z m _), Nat.zero_add, sucs_num]
  have hz := size_eq (.num (n + m)) (by rw [num_sz]; omega)
  rw [num_sz] at hz
  rw [ev_eq, if_neg (by simp; omega), if_pos (num_val _)]
theorem adds_eval {a b : Nat} (ha : a < 20) (hb : b < 20) : (plusP a b).eval ((4 * a + 4 : Nat) : Int) = (.num (a + b), 0) ∧ (plusP a b).eval ((4 * a + 3 : Nat) : Int) = (.zero, 11) := by
  have hc := (adds_few ha hb).2
  have e1 := add_all (n := a) (m := b) (by omega) (by omega)
  have e2 := add_less (n := a) (m := b) (by omega) (by omega)
  constructor
  · simp only [Pr.eval]
    rw [if_neg (by simp [hc]), if_neg (by simp; omega), if_neg (by simp; omega), Int.toNat_natCast, show (plusP a b).gs = plusGs from rfl, e1]
  · simp only [Pr.eval]
    rw [if_neg (by simp [hc]), if_neg (by simp; omega), if_neg (by simp; omega), Int.toNat_natCast, show (plusP a b).gs = plusGs from rfl, e2]
end Go.Proofs.Eng
