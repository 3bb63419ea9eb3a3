/- The shortened text of a law. Conditions: texts of any length that an int holds. -/
import Derived.Test.YteecmcphbehfgaaDoorLiftB
namespace Go.Proofs.YteecmcphbehfgaaDoor
open Go.RowKit Go.Lib

theorem short_any (s : ByteArray) (n : Nat) (hs : s.size ≤ 9223372036854775807) (hn : n ≤ 1000000) (w : World) : Calls Tryd.prog 4 #[.string s, .int .i64 (n : Int)] w fun e w' => e = .returned (.string (s.extract 0 (min s.size n))) ∧ w' = w := by
  have e3 : (min (s.size : Int) (n : Int)).toNat = min s.size n := by omega
  have E3 := Lib.hid e3
  clear e3
  by_cases h : s.size < n
  · go_enter Tryd.func4, Tryd.ntmps4
    go_wp2
    go_ret
    refine ⟨?_, rfl⟩
    show Ending.returned (.string (s.extract 0 (min (s.size : Int) (n : Int)).toNat)) = _
    rw [E3.out]
  · go_enter Tryd.func4, Tryd.ntmps4
    go_wp2
    go_ret
    refine ⟨?_, rfl⟩
    show Ending.returned (.string (s.extract 0 (min (s.size : Int) (n : Int)).toNat)) = _
    rw [E3.out]
theorem short_size (s : ByteArray) (n : Nat) : (s.extract 0 (min s.size n)).size ≤ n := by simp; omega

end Go.Proofs.YteecmcphbehfgaaDoor
