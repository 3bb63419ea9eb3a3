/- utf8: control characters, on both sides. Conditions: none. -/
import Derived.Test.YteecmcphbehfgaaGreatDoorA1
namespace Go.Proofs.YteecmcphbehfgaaGreatDoor
open Go.RowKit Go.Lib

/-- The control characters. -/
def ctlN (r : Nat) : Bool := decide (r ≤ 31) || (decide (127 ≤ r) && decide (r ≤ 159)) || decide (r = 8232) || decide (r = 8233)
theorem ret_boolA {a b : Bool} (h : a = b) : Ending.returned (.bool a) = .returned (.bool b) := by rw [h]
theorem ctl_t {r : Nat} (h : r ≤ 31 ∨ (127 ≤ r ∧ r ≤ 159) ∨ r = 8232 ∨ r = 8233) : ctlN r = true := by
  simp only [ctlN, Bool.or_eq_true, Bool.and_eq_true, decide_eq_true_eq]; omega
theorem ctl_f {r : Nat} (h : ¬ (r ≤ 31 ∨ (127 ≤ r ∧ r ≤ 159) ∨ r = 8232 ∨ r = 8233)) : ctlN r = false := by
  rw [← Bool.not_eq_true]
  simp only [ctlN, Bool.or_eq_true, Bool.and_eq_true, decide_eq_true_eq]; omega

set_option maxRecDepth 10000 in
theorem control_any (r : Nat) (hr : r ≤ 1114111) (w : World) : Calls Tryz.prog 90 #[.int .i32 r] w fun e w' => e = .returned (.bool (ctlN r)) ∧ Below w.heap.size w w' := by
  go_enter Tryz.func90, Tryz.ntmps90
  by_cases h1 : (r : Int) ≤ 31
  · go_wp2
    go_ret
    exact ⟨ret_boolA (ctl_t (by omega)).symm, Below.refl _ _⟩
  · by_cases h2 : (127 : Int) ≤ r
    · by_cases h3 : (r : Int) ≤ 159
      · go_wp2
        go_ret
        exact ⟨ret_boolA (ctl_t (by omega)).symm, Below.refl _ _⟩
      · by_cases h4 : r = 8232
        · subst h4
          go_wp2
          go_ret
          exact ⟨ret_boolA (ctl_t (by omega)).symm, Below.refl _ _⟩
        · by_cases h5 : r = 8233
          · subst h5
            go_wp2
            go_ret
            exact ⟨ret_boolA (ctl_t (by omega)).symm, Below.refl _ _⟩
          · have h6 : ((r : Int) == 8232) = false := by simp; omega
            have h7 : ((r : Int) == 8233) = false := by simp; omega
            go_wp2
            go_ret
            exact ⟨ret_boolA (ctl_f (by omega)).symm, Below.refl _ _⟩
    · have h6 : ((r : Int) == 8232) = false := by simp; omega
      have h7 : ((r : Int) == 8233) = false := by simp; omega
      go_wp2
      go_ret
      exact ⟨ret_boolA (ctl_f (by omega)).symm, Below.refl _ _⟩

set_option maxRecDepth 10000 in
theorem rcontrol_any (r : Nat) (hr : r ≤ 1114111) (w : World) : Calls Tryz.prog 64 #[.int .i64 r] w fun e w' => e = .returned (.bool (ctlN r)) ∧ Below w.heap.size w w' := by
  go_enter Tryz.func64, Tryz.ntmps64
  by_cases h1 : (r : Int) < 32
  · go_wp2
    go_ret
    exact ⟨ret_boolA (ctl_t (by omega)).symm, Below.refl _ _⟩
  · by_cases h2 : (127 : Int) ≤ r
    · by_cases h3 : (r : Int) ≤ 159
      · go_wp2
        go_ret
        exact ⟨ret_boolA (ctl_t (by omega)).symm, Below.refl _ _⟩
      · by_cases h4 : r = 8232
        · subst h4
          go_wp2
          go_ret
          exact ⟨ret_boolA (ctl_t (by omega)).symm, Below.refl _ _⟩
        · by_cases h5 : r = 8233
          · subst h5
            go_wp2
            go_ret
            exact ⟨ret_boolA (ctl_t (by omega)).symm, Below.refl _ _⟩
          · have h6 : ((r : Int) == 8232) = false := by simp; omega
            have h7 : ((r : Int) == 8233) = false := by simp; omega
            go_wp2
            go_ret
            exact ⟨ret_boolA (ctl_f (by omega)).symm, Below.refl _ _⟩
    · have h6 : ((r : Int) == 8232) = false := by simp; omega
      have h7 : ((r : Int) == 8233) = false := by simp; omega
      go_wp2
      go_ret
      exact ⟨ret_boolA (ctl_f (by omega)).symm, Below.refl _ _⟩
end Go.Proofs.YteecmcphbehfgaaGreatDoor
