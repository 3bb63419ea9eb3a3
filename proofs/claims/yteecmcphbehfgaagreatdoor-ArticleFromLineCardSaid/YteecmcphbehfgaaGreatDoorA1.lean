/- utf8: the size that a first byte tells, and the classes. Conditions: none. -/
import Derived.WalkKit
import Derived.Lib.Hide
import Derived.Deep.WholeRow
import Derived.Deep.DeepCutAuto
import Derived.Test.YteecmcphbehfgaaGreatDoorChecked
namespace Go.Proofs.YteecmcphbehfgaaGreatDoor
open Go.RowKit Go.Lib

def clsA : Array Value := #[.int .u8 0, .int .u8 127, .int .u8 127, .int .i32 0, .int .i32 127, .int .u8 194, .int .u8 223, .int .u8 31, .int .i32 128, .int .i32 2047, .int .u8 224, .int .u8 239, .int .u8 15, .int .i32 2048, .int .i32 65535, .int .u8 240, .int .u8 244, .int .u8 7, .int .i32 65536, .int .i32 1114111]
theorem classes_any (w : World) : Calls Tryz.prog 87 #[] w fun e w' => e = .returned (.agg clsA) ∧ Below w.heap.size w w' := by
  go_enter Tryz.func87, Tryz.ntmps87
  go_upto_region 1 with fail
  rename_i Q1 K1 hK1
  refine wp_region_lit ?_
  refine wpList_build rfl _ _ rfl (by kernel_rfl) ?_
  refine wpList_build rfl _ _ rfl (by kernel_rfl) ?_
  refine wpList_build rfl _ _ rfl (by kernel_rfl) ?_
  refine wpList_build rfl _ _ rfl (by kernel_rfl) ?_
  refine wpList_build rfl _ _ rfl (by kernel_rfl) ?_
  refine wpList_store_row rfl _ _ _ rfl w.heap.size clsA (by kernel_rfl) (by kernel_rfl) 128 _ (heap_alloc_new w _) (by kernel_rfl) (by kernel_rfl) (by kernel_rfl) ?_
  refine wpList_nil ?_
  rw [World.setRow_alloc_new]
  refine hK1 _ _ ?_
  refine wp_ret ?_
  refine bodyPost_ret (results_cell_row (P := Tryz.prog) rfl _ _ w.heap.size 128 clsA (0, 0) (.array 4 127) (by kernel_rfl) (heap_alloc_new w _) Tryz.underlying128 rfl (by kernel_rfl)) rfl ⟨rfl, ?_⟩
  exact (Below.refl _ _).alloc (Nat.le_refl _) _

/-- The size of the encodings that begin with a byte, or 0. -/
def sizeB (c : UInt8) : Nat := if c.toNat ≤ 127 then 1 else if 194 ≤ c.toNat ∧ c.toNat ≤ 223 then 2 else if 224 ≤ c.toNat ∧ c.toNat ≤ 239 then 3 else if 240 ≤ c.toNat ∧ c.toNat ≤ 244 then 4 else 0

set_option maxRecDepth 10000 in
theorem sizeOf_any (c : UInt8) (w : World) : Calls Tryz.prog 111 #[.int .u8 (c.toNat : Int)] w fun e w' => e = .returned (.int .i64 (sizeB c : Int)) ∧ Below w.heap.size w w' := by
  have x0 : ∀ w, (Instr.index 128 (.agg clsA) (.int .i64 0)).run Tryz.prog w = .ok (.agg #[.int .u8 0, .int .u8 127, .int .u8 127, .int .i32 0, .int .i32 127]) w := fun _ => by kernel_rfl
  have x1 : ∀ w, (Instr.index 128 (.agg clsA) (.int .i64 1)).run Tryz.prog w = .ok (.agg #[.int .u8 194, .int .u8 223, .int .u8 31, .int .i32 128, .int .i32 2047]) w := fun _ => by kernel_rfl
  have x2 : ∀ w, (Instr.index 128 (.agg clsA) (.int .i64 2)).run Tryz.prog w = .ok (.agg #[.int .u8 224, .int .u8 239, .int .u8 15, .int .i32 2048, .int .i32 65535]) w := fun _ => by kernel_rfl
  have x3 : ∀ w, (Instr.index 128 (.agg clsA) (.int .i64 3)).run Tryz.prog w = .ok (.agg #[.int .u8 240, .int .u8 244, .int .u8 7, .int .i32 65536, .int .i32 1114111]) w := fun _ => by kernel_rfl
  have C := Lib.hid (classes_any)
  go_enter Tryz.func111, Tryz.ntmps111
  go_wp2_with fail
  refine (C.out _).mono ?_
  rintro e w1 ⟨rfl, hb1⟩
  have HB := Lib.hid hb1
  clear hb1
  have hc := c.toNat_lt
  go_wp2
  go_loopw [6] (fun v wr => ∃ k : Nat, k ≤ 4 ∧ v = .int .i64 k ∧ (1 ≤ k → ¬ c.toNat ≤ 127) ∧ (2 ≤ k → ¬ (194 ≤ c.toNat ∧ c.toNat ≤ 223)) ∧ (3 ≤ k → ¬ (224 ≤ c.toNat ∧ c.toNat ≤ 239)) ∧ (4 ≤ k → ¬ (240 ≤ c.toNat ∧ c.toNat ≤ 244)) ∧ Below w.heap.size w wr) (fun v _ => 4 - (RowKit.intOf v).toNat)
  case atStart => exact ⟨0, by omega, rfl, by omega, by omega, by omega, by omega, HB.out⟩
  case round =>
    obtain ⟨k, hk, rfl, e1, e2, e3, e4, hbk⟩ := hrel
    have HK := Lib.hid hbk
    clear hbk
    rcases (by omega : k = 0 ∨ k = 1 ∨ k = 2 ∨ k = 3 ∨ k = 4) with rfl | rfl | rfl | rfl | rfl
    · by_cases hl : (0 : Int) ≤ c.toNat
      · by_cases hh : (c.toNat : Int) ≤ 127
        · go_wp2
          go_ret
          refine ⟨?_, HK.out.alloc HK.out.size _⟩
          have : sizeB c = 1 := by unfold sizeB; (repeat' split) <;> omega
          rw [this]; rfl
        · go_wp2
          go_roundw
          case rel => exact ⟨1, by omega, rfl, by omega, by omega, by omega, by omega, HK.out.alloc HK.out.size _⟩
          case measure => simp [RowKit.intOf]
      · exact absurd (Int.natCast_nonneg _) hl
    · by_cases hl : (194 : Int) ≤ c.toNat
      · by_cases hh : (c.toNat : Int) ≤ 223
        · go_wp2
          go_ret
          refine ⟨?_, HK.out.alloc HK.out.size _⟩
          have : sizeB c = 2 := by unfold sizeB; (repeat' split) <;> omega
          rw [this]; rfl
        · go_wp2
          go_roundw
          case rel => exact ⟨2, by omega, rfl, by omega, by omega, by omega, by omega, HK.out.alloc HK.out.size _⟩
          case measure => simp [RowKit.intOf]
      · go_wp2
        go_roundw
        case rel => exact ⟨2, by omega, rfl, by omega, by omega, by omega, by omega, HK.out.alloc HK.out.size _⟩
        case measure => simp [RowKit.intOf]
    · by_cases hl : (224 : Int) ≤ c.toNat
      · by_cases hh : (c.toNat : Int) ≤ 239
        · go_wp2
          go_ret
          refine ⟨?_, HK.out.alloc HK.out.size _⟩
          have : sizeB c = 3 := by unfold sizeB; (repeat' split) <;> omega
          rw [this]; rfl
        · go_wp2
          go_roundw
          case rel => exact ⟨3, by omega, rfl, by omega, by omega, by omega, by omega, HK.out.alloc HK.out.size _⟩
          case measure => simp [RowKit.intOf]
      · go_wp2
        go_roundw
        case rel => exact ⟨3, by omega, rfl, by omega, by omega, by omega, by omega, HK.out.alloc HK.out.size _⟩
        case measure => simp [RowKit.intOf]
    · by_cases hl : (240 : Int) ≤ c.toNat
      · by_cases hh : (c.toNat : Int) ≤ 244
        · go_wp2
          go_ret
          refine ⟨?_, HK.out.alloc HK.out.size _⟩
          have : sizeB c = 4 := by unfold sizeB; (repeat' split) <;> omega
          rw [this]; rfl
        · go_wp2
          go_roundw
          case rel => exact ⟨4, by omega, rfl, by omega, by omega, by omega, by omega, HK.out.alloc HK.out.size _⟩
          case measure => simp [RowKit.intOf]
      · go_wp2
        go_roundw
        case rel => exact ⟨4, by omega, rfl, by omega, by omega, by omega, by omega, HK.out.alloc HK.out.size _⟩
        case measure => simp [RowKit.intOf]
    · go_wp2
      go_ret
      refine ⟨?_, HK.out⟩
      have : sizeB c = 0 := by unfold sizeB; (repeat' split) <;> omega
      rw [this]; rfl
end Go.Proofs.YteecmcphbehfgaaGreatDoor
