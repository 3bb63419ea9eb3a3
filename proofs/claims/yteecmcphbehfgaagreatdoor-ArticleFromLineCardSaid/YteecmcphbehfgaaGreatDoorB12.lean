/- The document's examples over this translation: known returns true.
   Conditions: the cell of internal/bytealg.MaxLen holds some int. -/
import Derived.Test.YteecmcphbehfgaaGreatDoorB11
import Derived.Test.YteecmcphbehfgaaGreatDoorB7
import Derived.KernelRfl
namespace Go.Proofs.YteecmcphbehfgaaGreatDoor
open Go.RowKit Go.Lib

@[local go_sem] theorem eqFF (a b c d : ByteArray) (w : World) : (Op.equalIn 10000 70 (.agg #[.string a, .string b]) (.agg #[.string c, .string d])).run Tryz.prog w = .ok (a.toList == c.toList && b.toList == d.toList) w := by
  have u3 := Tryz.underlying9
  have hS : Tryz.prog.underlying 70 = some (.struct (Tryz.prog.fieldsOf 70)) := by kernel_rfl
  have hp : Tryz.prog.stoodInHeld 70 = false := by kernel_rfl
  rw [show (10000 : Nat) = 9999 + 1 from rfl, run_equalIn_agg w 9999 70 _ _ hS hp]
  simp only [Program.fieldsOf, Tryz.underlying70]
  go_simp
  by_cases h1 : a.toList = c.toList <;> by_cases h2 : b.toList = d.toList <;> simp [h1, h2]

def ks1 : ByteArray := ⟨#[83, 117, 98, 106, 101, 99, 116, 58, 32, 97, 10, 10, 104, 101, 108, 108, 111, 10]⟩
def ks2 : ByteArray := ⟨#[83, 117, 98, 106, 101, 99, 116, 58, 32, 97, 10, 10, 120]⟩
def ks3 : ByteArray := ⟨#[97, 10, 62, 32, 98, 10, 10]⟩
def ks4 : ByteArray := ⟨#[62, 62, 32, 120]⟩
def ks5 : ByteArray := ⟨#[97, 10, 98]⟩
def kf1 : List (List UInt8 × List UInt8) := [([83, 117, 98, 106, 101, 99, 116], [97])]
def kt1 : ByteArray := ⟨#[104, 101, 108, 108, 111, 10]⟩
def kt2 : ByteArray := ⟨#[83, 117, 98, 106, 101, 99, 116, 58, 32, 97, 10, 10, 104, 101, 108, 108, 111, 10]⟩
def kt3 : ByteArray := ⟨#[62, 32, 97, 10, 62, 62, 32, 98, 10, 62, 10]⟩
def kt4 : ByteArray := ⟨#[120]⟩
def kt5 : ByteArray := ⟨#[83, 117, 98, 106, 101, 99, 116]⟩
def kt6 : ByteArray := ⟨#[97]⟩
theorem kp1 : artS ks1.data.toList = ((kf1, [104, 101, 108, 108, 111, 10]), (0, 0)) := by kernel_rfl
theorem kp2 : (artS ks2.data.toList).2 = (13, 4) := by kernel_rfl
theorem kr1 : aprS kf1 [104, 101, 108, 108, 111, 10] = ([83, 117, 98, 106, 101, 99, 116, 58, 32, 97, 10, 10, 104, 101, 108, 108, 111, 10], 0) := by kernel_rfl
theorem kq3 : quS ks3.data.toList = ([62, 32, 97, 10, 62, 62, 32, 98, 10, 62, 10], 0) := by kernel_rfl
theorem kl4 : lvN ks4.data.toList = 2 ∧ lvR ks4.data.toList = [120] := ⟨by kernel_rfl, by kernel_rfl⟩
theorem kc5 : (lineI ks5.data.toList).length = 2 := by kernel_rfl

set_option maxRecDepth 1000000 in
set_option maxHeartbeats 4000000 in
theorem known_any (w : World) (m : Int) (hm : w.cell? ⟨0, 0, none⟩ = some (.int .i64 m)) :
    Calls Tryz.prog 14 #[] w fun e w' => e = .returned (.bool true) ∧ Below w.heap.size w w' := by
  have h0 : 0 < w.heap.size := by
    rcases Nat.eq_zero_or_pos w.heap.size with h | h
    · simp [World.cell?, Array.getElem?_eq_none (show w.heap.size ≤ 0 by omega)] at hm
    · exact h
  have HM := Lib.hid hm
  have C1 := Lib.hid (aparse_any ks1 w m (by decide) hm)
  go_enter Tryz.func14, Tryz.ntmps14
  go_wp2_with fail
  refine C1.out.mono ?_
  rintro e w1 ⟨v, rfl, hown, hb1⟩
  rw [kp1] at hown ⊢
  obtain ⟨A, cap, rfl⟩ := own_shape2 hown
  have HO := Lib.hid hown
  have HB1 := Lib.hid hb1
  have hm1 : w1.cell? ⟨0, 0, none⟩ = some (.int .i64 m) := ((bcell hb1).1 _ _ h0).trans hm
  have hw1 := hb1.size
  have hsv : strV [104, 101, 108, 108, 111, 10] = .string kt1 := rfl
  simp only [hsv]
  have ht1 : kt1.toList = [104, 101, 108, 108, 111, 10] := by kernel_rfl
  have hd1 : kt1.data.toList = [104, 101, 108, 108, 111, 10] := rfl
  have hz1 : kt1.size = 6 := rfl
  generalize kt1 = t1 at *
  have hln : kf1.length = 1 := rfl
  rw [hln] at HO ⊢
  -- the first article lies in a block of its own
  have ha1 := heap_alloc_new w1 (.cells #[.slice A 1 cap, .string t1] 32)
  have HA1 := Lib.hid ha1
  have HOa := Lib.hid (own_kept HO.out ((Kept.refl (fun _ => False) w1).alloc (.cells #[.slice A 1 cap, .string t1] 32)) (fun _ _ f => f))
  have HB1a := Lib.hid (hb1.alloc hw1 (.cells #[.slice A 1 cap, .string t1] 32))
  clear hown hb1 C1 hm hsv ha1
  have C2 := Lib.hid (aprint_any (body := t1) (fs := kf1) HOa.out (by decide) (by decide) (by rw [hz1]; decide))
  rw [hd1] at C2
  clear hd1 hz1
  go_wp2_with fail
  refine C2.out.mono ?_
  rintro e w2 ⟨rfl, hb2⟩
  rw [kr1]
  have hsv : strV [83, 117, 98, 106, 101, 99, 116, 58, 32, 97, 10, 10, 104, 101, 108, 108, 111, 10] = .string kt2 := rfl
  simp only [hsv]
  have ht2 : kt2.toList = [83, 117, 98, 106, 101, 99, 116, 58, 32, 97, 10, 10, 104, 101, 108, 108, 111, 10] := by kernel_rfl
  generalize kt2 = t2 at *
  clear hsv
  have HO2 := Lib.hid (own_kept HOa.out (kept_of_below hb2) (fun _ _ f => f))
  have HB2 := Lib.hid (HB1a.out.trans (hb2.mono HB1a.out.size))
  have HA2 := Lib.hid ((hb2.block _ (lt_of_block HA1.out)).trans HA1.out)
  have hm2 : w2.cell? ⟨0, 0, none⟩ = some (.int .i64 m) := ((bcell HB2.out).1 _ _ h0).trans HM.out
  have hw2 := HB2.out.size
  clear hb2 C2 hm1 hw1
  have C3 := Lib.hid (aparse_any ks2 w2 m (by decide) hm2)
  go_wp2_with fail
  generalize Value.tuple #[.agg #[.slice A 1 cap, .string t1], .int .i64 0, .int .i64 0] = X1
  generalize Value.agg #[.slice A 1 cap, .string t1] = X2
  generalize Value.tuple #[.string t2, .int .i64 0] = X3
  refine C3.out.mono ?_
  rintro e w3 ⟨v3, rfl, hown3, hb3⟩
  obtain ⟨A3, cap3, rfl⟩ := own_shape2 hown3
  rw [kp2]
  generalize (artS ks2.data.toList).1.1.length = n3
  generalize (artS ks2.data.toList).1.2 = b3
  have HO3 := Lib.hid (own_kept HO2.out (kept_of_below (hb3.alloc hb3.size (.cells #[.slice A3 n3 cap3, .string (bsOf b3)] 32))) (fun _ _ f => f))
  have HB3 := Lib.hid (HB2.out.trans ((hb3.alloc hb3.size (.cells #[.slice A3 n3 cap3, .string (bsOf b3)] 32)).mono hw2))
  have HA3 := Lib.hid (((hb3.alloc hb3.size (.cells #[.slice A3 n3 cap3, .string (bsOf b3)] 32)).block _ (lt_of_block HA2.out)).trans HA2.out)
  simp only [strV]
  clear hb3 C3 hm2 hown3
  have C4 := Lib.hid (quote_any ks3 (by decide))
  go_wp2_with fail
  generalize Value.tuple #[.agg #[.slice A3 n3 cap3, .string (bsOf b3)], .int .i64 13, .int .i64 4] = X4
  generalize Value.agg #[.slice A3 n3 cap3, .string (bsOf b3)] = X5
  refine (C4.out _).mono ?_
  rintro e w4 ⟨rfl, hb4⟩
  rw [kq3]
  have hsv : strV [62, 32, 97, 10, 62, 62, 32, 98, 10, 62, 10] = .string kt3 := rfl
  simp only [hsv]
  have ht3 : kt3.toList = [62, 32, 97, 10, 62, 62, 32, 98, 10, 62, 10] := by kernel_rfl
  generalize kt3 = t3 at *
  clear hsv
  have HO4 := Lib.hid (own_kept HO3.out (kept_of_below hb4) (fun _ _ f => f))
  have HB4 := Lib.hid (HB3.out.trans (hb4.mono HB3.out.size))
  have HA4 := Lib.hid ((hb4.block _ (lt_of_block HA3.out)).trans HA3.out)
  clear hb4 C4
  have C5 := Lib.hid (level_any ks4 (by decide) w4)
  go_wp2_with fail
  generalize Value.tuple #[.string t3, .int .i64 0] = X6
  refine C5.out.mono ?_
  rintro e w5 ⟨rfl, rfl⟩
  rw [kl4.1, kl4.2]
  have hsv : strV [120] = .string kt4 := rfl
  simp only [hsv]
  have ht4 : kt4.toList = [120] := by kernel_rfl
  generalize kt4 = t4 at *
  clear hsv C5
  obtain ⟨gb, cap', he, hgb, hcell⟩ := own_fields HO4.out (by decide)
  injection he with he1 he3 he2
  clear he3
  subst he1; subst he2
  obtain ⟨q0, q1⟩ := hcell 0 (by decide)
  have k0 : w4.cell? ⟨gb, 0, none⟩ = some (.string kt5) := q0
  have k1 : w4.cell? ⟨gb, 1, none⟩ = some (.string kt6) := q1
  have ht5 : kt5.toList = [83, 117, 98, 106, 101, 99, 116] := by kernel_rfl
  have ht6 : kt6.toList = [97] := by kernel_rfl
  generalize kt5 = t5 at *
  generalize kt6 = t6 at *
  obtain ⟨⟨d0, d1⟩, _⟩ := two_facts HA4.out
  have C6 := Lib.hid (count_any ks5 (by decide))
  rw [kc5] at C6
  clear hcell q0 q1
  rw [show (((2 : Nat) : Int)) = 2 from rfl]
  go_wp2_with (go_at_call 37; refine (C6.out _).mono ?_; rintro e w6 ⟨rfl, hb6⟩; have HB6 := Lib.hid (HB4.out.trans (hb6.mono HB4.out.size)); clear hb6)
  go_ret
  exact ⟨rfl, HB6.out⟩
end Go.Proofs.YteecmcphbehfgaaGreatDoor
