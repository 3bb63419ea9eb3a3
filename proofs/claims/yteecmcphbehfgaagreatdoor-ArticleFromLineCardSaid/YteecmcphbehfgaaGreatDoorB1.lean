/- article: a text cut at its first line feed; the first error of a body: the plain function and the program's walk. Conditions: texts of at most 1000000 bytes. -/
import Derived.Test.YteecmcphbehfgaaGreatDoorA11
namespace Go.Proofs.YteecmcphbehfgaaGreatDoor
open Go.RowKit Go.Lib

/-- The two parts of a text at its first line feed. -/
def CutPost (s : ByteArray) (w : World) (e : Ending) (w' : World) : Prop :=
  (if spanL nlB s.data.toList 0 = s.size then e = .returned (.tuple #[.string s, .string ⟨#[]⟩, .bool false])
   else e = .returned (.tuple #[.string (s.extract 0 (spanL nlB s.data.toList 0)), .string (s.extract (spanL nlB s.data.toList 0 + 1) s.size), .bool true])) ∧ Below w.heap.size w w'
set_option maxHeartbeats 1000000 in
theorem scut_any (s : ByteArray) (hs : s.size ≤ 1000000) (w : World) : Calls Tryz.prog 58 #[.string s, .string ⟨#[10]⟩] w (CutPost s w) := by
  have CI := Tryz.stringslite_Index_one s 10 w
  have hle := spanL_le nlB s.data.toList 0 (Nat.zero_le _)
  rw [indexByte_nl] at CI
  rw [show s.data.toList.length = s.size by simp] at CI hle
  obtain ⟨n, hn⟩ : ∃ n, spanL nlB s.data.toList 0 = n := ⟨_, rfl⟩
  rw [hn] at CI hle
  have HN := Lib.hid hn
  have h1 : (⟨#[10]⟩ : ByteArray).size = 1 := rfl
  by_cases hz : n = s.size
  · rw [if_pos hz] at CI
    have HZ := Lib.hid hz
    have HC := Lib.hid CI
    clear CI hz hn
    go_enter Tryz.func58, Tryz.ntmps58
    go_wp2_with (go_at_call 84; refine HC.out.mono ?_; rintro e w' ⟨rfl, rfl⟩)
    go_ret3
    exact ⟨by rw [HN.out, if_pos HZ.out]; rfl, Below.refl _ _⟩
  · rw [if_neg hz] at CI
    have HZ := Lib.hid hz
    have HC := Lib.hid CI
    have c1 : (0 : Int) ≤ (n : Int) := by omega
    have c2 : (n : Int) ≤ s.size := by omega
    have c3 : (0 : Int) ≤ (n : Int) + 1 := by omega
    have c4 : (n : Int) + 1 ≤ s.size := by omega
    clear CI hz hn
    go_enter Tryz.func58, Tryz.ntmps58
    go_wp2_with (go_at_call 84; refine HC.out.mono ?_; rintro e w' ⟨rfl, rfl⟩)
    go_region
    go_wp2
    go_ret3
    exact ⟨by rw [HN.out, if_neg HZ.out]; rfl, (Below.refl _ _).drew⟩
theorem cutn_any (s : ByteArray) (hs : s.size ≤ 1000000) (w : World) : Calls Tryz.prog 33 #[.string s, .string ⟨#[10]⟩] w (CutPost s w) := by
  have C := Lib.hid (scut_any s hs)
  go_enter Tryz.func33, Tryz.ntmps33
  go_wp2_with fail
  refine (C.out _).mono ?_
  rintro e w' ⟨he, hb⟩
  have HB := Lib.hid hb
  clear hb
  by_cases hz : spanL nlB s.data.toList 0 = s.size
  · rw [if_pos hz] at he
    subst he
    have HZ := Lib.hid hz
    clear hz
    go_wp2
    go_ret3
    exact ⟨by rw [if_pos HZ.out]; rfl, HB.out⟩
  · rw [if_neg hz] at he
    subst he
    have HZ := Lib.hid hz
    clear hz
    go_wp2
    go_ret3
    exact ⟨by rw [if_neg HZ.out]; rfl, HB.out⟩
end Go.Proofs.YteecmcphbehfgaaGreatDoor
