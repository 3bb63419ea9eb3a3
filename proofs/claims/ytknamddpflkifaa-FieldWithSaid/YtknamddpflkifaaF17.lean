/- The document's examples over this translation: known returns true.
   Conditions: the cell of internal/bytealg.MaxLen holds some int. -/
import Derived.Test.YtknamddpflkifaaF16
import Derived.KernelRfl
namespace Go.Proofs.Ytknamddpflkifaa
open Go.RowKit Go.Lib

def tx1 : ByteArray := ⟨#[83, 117, 98, 106, 101, 99, 116, 58, 32, 97, 10, 9, 32, 98, 10, 88, 58, 10]⟩
def tx2 : ByteArray := ⟨#[32, 97, 10]⟩
def tx3 : ByteArray := ⟨#[65, 58, 32, 98, 0, 10]⟩
def fs1 : List (List UInt8 × List UInt8) := [([83, 117, 98, 106, 101, 99, 116], [97, 32, 98]), ([88], [])]
theorem parse1 : parseS tx1.data.toList = (fs1, (0, 0)) := by kernel_rfl
theorem parse2 : (parseS tx2.data.toList).2 = (0, 3) := by kernel_rfl
theorem parse3 : (parseS tx3.data.toList).2 = (4, 6) := by kernel_rfl
theorem print1 : printS fs1 = ([83, 117, 98, 106, 101, 99, 116, 58, 32, 97, 32, 98, 10, 88, 58, 10], 0) := by kernel_rfl

set_option maxRecDepth 10000 in
set_option maxHeartbeats 2000000 in
theorem known_any (w : World) (m : Int) (hm : w.cell? ⟨0, 0, none⟩ = some (.int .i64 m)) :
    Calls Try.prog 11 #[] w fun e w' => e = .returned (.bool true) ∧ Below w.heap.size w w' := by
  have h0 : 0 < w.heap.size := by
    rcases Nat.eq_zero_or_pos w.heap.size with h | h
    · simp [World.cell?, Array.getElem?_eq_none (show w.heap.size ≤ 0 by omega)] at hm
    · exact h
  have C1 := Lib.hid (parse_any tx1 w m (by decide) hm)
  go_enter Try.func11, Try.ntmps11
  go_wp2_with fail
  refine C1.out.mono ?_
  rintro e w1 ⟨v, rfl, hown, hb1⟩
  rw [parse1] at hown ⊢
  have HO := Lib.hid hown
  have HB1 := Lib.hid hb1
  have hm1 : w1.cell? ⟨0, 0, none⟩ = some (.int .i64 m) := ((bcell hb1).1 _ _ h0).trans hm
  have hw1 := hb1.size
  obtain ⟨A, cap, rfl⟩ := own_shape2 hown
  clear hown hb1 C1 hm
  have C2 := Lib.hid (print_any HO.out (by decide) (by decide))
  go_wp2_with fail
  refine C2.out.mono ?_
  rintro e w2 ⟨rfl, hb2⟩
  rw [print1]
  have hsv : strV [83, 117, 98, 106, 101, 99, 116, 58, 32, 97, 32, 98, 10, 88, 58, 10] = .string ⟨#[83, 117, 98, 106, 101, 99, 116, 58, 32, 97, 32, 98, 10, 88, 58, 10]⟩ := rfl
  rw [hsv]
  clear hsv
  have HO2 := Lib.hid (own_kept HO.out (kept_of_below hb2) (fun _ _ f => f))
  have HB2 := Lib.hid (HB1.out.trans (hb2.mono hw1))
  have hm2 : w2.cell? ⟨0, 0, none⟩ = some (.int .i64 m) := ((bcell hb2).1 _ _ (by omega)).trans hm1
  have hw2 := HB2.out.size
  clear hb2 C2 hm1
  have C3 := Lib.hid (parse_any tx2 w2 m (by decide) hm2)
  go_wp2_with fail
  refine C3.out.mono ?_
  rintro e w3 ⟨v3, rfl, _, hb3⟩
  rw [parse2]
  have HO3 := Lib.hid (own_kept HO2.out (kept_of_below hb3) (fun _ _ f => f))
  have HB3 := Lib.hid (HB2.out.trans (hb3.mono hw2))
  have hm3 : w3.cell? ⟨0, 0, none⟩ = some (.int .i64 m) := ((bcell hb3).1 _ _ (by omega)).trans hm2
  have hw3 := HB3.out.size
  clear hb3 C3 hm2
  have C4 := Lib.hid (parse_any tx3 w3 m (by decide) hm3)
  go_wp2_with fail
  refine C4.out.mono ?_
  rintro e w4 ⟨v4, rfl, _, hb4⟩
  rw [parse3]
  have HO4 := Lib.hid (own_kept HO3.out (kept_of_below hb4) (fun _ _ f => f))
  have HB4 := Lib.hid (HB3.out.trans (hb4.mono hw3))
  clear hb4 C4 hm3
  obtain ⟨gb, cap', he, hgb, hcell⟩ := own_fields HO4.out (by decide)
  injection he with he1 _ he2
  subst he1; subst he2
  obtain ⟨q0, q1⟩ := hcell 0 (by decide)
  obtain ⟨q2, q3⟩ := hcell 1 (by decide)
  clear hcell
  have k0 : w4.cell? ⟨gb, 0, none⟩ = some (.string ⟨#[83, 117, 98, 106, 101, 99, 116]⟩) := q0
  have k1 : w4.cell? ⟨gb, 1, none⟩ = some (.string ⟨#[97, 32, 98]⟩) := q1
  have k2 : w4.cell? ⟨gb, 2, none⟩ = some (.string ⟨#[88]⟩) := q2
  have k3 : w4.cell? ⟨gb, 3, none⟩ = some (.string ⟨#[]⟩) := q3
  clear q0 q1 q2 q3
  have hln : fs1.length = 2 := rfl
  rw [hln]
  go_wp2
  go_ret
  exact ⟨rfl, HB4.out⟩
end Go.Proofs.Ytknamddpflkifaa
