/- utf8: the bytes of a code point, and their code point again: plain functions. Conditions: none. -/
import Derived.Test.YteecmcphbehfgaaGreatDoorP2
namespace Go.Proofs.YteecmcphbehfgaaGreatDoor
open Go.RowKit Go.Lib

def u8N (n : Nat) : UInt8 := UInt8.ofNat n
theorem u8N_toNat {n : Nat} (h : n < 256) : (u8N n).toNat = n := by unfold u8N; rw [UInt8.toNat_ofNat']; omega
def encL (r : Nat) : List UInt8 :=
  if r ≤ 127 then [u8N r] else if r ≤ 2047 then [u8N (192 + r / 64), u8N (128 + r % 64)] else
  if r ≤ 65535 then [u8N (224 + r / 4096), u8N (128 + r / 64 % 64), u8N (128 + r % 64)] else
  [u8N (240 + r / 262144), u8N (128 + r / 4096 % 64), u8N (128 + r / 64 % 64), u8N (128 + r % 64)]
theorem contU_of {n : Nat} (h : n < 64) : contU (u8N (128 + n)) = true := by
  unfold contU
  rw [u8N_toNat (by omega)]
  simp
  omega
theorem sizeB_1 {c : UInt8} (h : c.toNat ≤ 127) : sizeB c = 1 := by unfold sizeB; rw [if_pos h]
theorem sizeB_2 {c : UInt8} (h : 194 ≤ c.toNat) (h' : c.toNat ≤ 223) : sizeB c = 2 := by unfold sizeB; rw [if_neg (by omega), if_pos ⟨h, h'⟩]
theorem sizeB_3 {c : UInt8} (h : 224 ≤ c.toNat) (h' : c.toNat ≤ 239) : sizeB c = 3 := by unfold sizeB; rw [if_neg (by omega), if_neg (by omega), if_pos ⟨h, h'⟩]
theorem sizeB_4 {c : UInt8} (h : 240 ≤ c.toNat) (h' : c.toNat ≤ 244) : sizeB c = 4 := by unfold sizeB; rw [if_neg (by omega), if_neg (by omega), if_neg (by omega), if_pos ⟨h, h'⟩]
theorem dec_enc {r : Nat} (h : r ≤ 1114111) (h2 : ¬ (55296 ≤ r ∧ r ≤ 57343)) : decL (encL r) = some (r, (encL r).length) := by
  unfold encL
  by_cases h1 : r ≤ 127
  · rw [if_pos h1]
    have hz : sizeB (u8N r) = 1 := sizeB_1 (by rw [u8N_toNat (by omega)]; exact h1)
    have hv : runeV [] ((u8N r).toNat % maskN 1) = r := by show (u8N r).toNat % 128 = r; rw [u8N_toNat (by omega)]; omega
    rw [decL]
    rw [hz]
    simp only [List.length_nil, Nat.sub_self, List.take_zero]
    rw [if_neg (by omega), if_neg (by omega), hv, if_pos]
    · rfl
    · unfold goodT
      rw [hv, List.all_nil, Bool.true_and, scalB_iff]
      exact ⟨⟨Nat.zero_le _, h1⟩, h2⟩
  rw [if_neg h1]
  by_cases h3 : r ≤ 2047
  · rw [if_pos h3]
    have hc : (u8N (192 + r / 64)).toNat = 192 + r / 64 := u8N_toNat (by omega)
    have hz : sizeB (u8N (192 + r / 64)) = 2 := sizeB_2 (by omega) (by omega)
    have hv : runeV [u8N (128 + r % 64)] ((u8N (192 + r / 64)).toNat % maskN 2) = r := by
      show (u8N (192 + r / 64)).toNat % 32 * 64 + (u8N (128 + r % 64)).toNat % 64 = r
      rw [hc, u8N_toNat (by omega)]
      omega
    rw [decL]
    rw [hz, show (2 : Nat) - 1 = 1 from rfl, List.take_of_length_le (by simp), hv]
    rw [if_neg (by omega), if_neg (by simp), if_pos]
    · rfl
    · unfold goodT
      rw [hv, List.all_cons, List.all_nil, contU_of (by omega), Bool.true_and, Bool.true_and, scalB_iff]
      exact ⟨⟨by show 128 ≤ r; omega, h3⟩, h2⟩
  rw [if_neg h3]
  by_cases h4 : r ≤ 65535
  · rw [if_pos h4]
    have hc : (u8N (224 + r / 4096)).toNat = 224 + r / 4096 := u8N_toNat (by omega)
    have hz : sizeB (u8N (224 + r / 4096)) = 3 := sizeB_3 (by omega) (by omega)
    have hv : runeV [u8N (128 + r / 64 % 64), u8N (128 + r % 64)] ((u8N (224 + r / 4096)).toNat % maskN 3) = r := by
      show ((u8N (224 + r / 4096)).toNat % 16 * 64 + (u8N (128 + r / 64 % 64)).toNat % 64) * 64 + (u8N (128 + r % 64)).toNat % 64 = r
      rw [hc, u8N_toNat (by omega), u8N_toNat (by omega)]
      omega
    rw [decL]
    rw [hz, show (3 : Nat) - 1 = 2 from rfl, List.take_of_length_le (by simp), hv]
    rw [if_neg (by omega), if_neg (by simp), if_pos]
    · rfl
    · unfold goodT
      rw [hv, List.all_cons, List.all_cons, List.all_nil, contU_of (by omega), contU_of (by omega), Bool.true_and, Bool.true_and, Bool.true_and, scalB_iff]
      exact ⟨⟨by show 2048 ≤ r; omega, h4⟩, h2⟩
  rw [if_neg h4]
  have hc : (u8N (240 + r / 262144)).toNat = 240 + r / 262144 := u8N_toNat (by omega)
  have hz : sizeB (u8N (240 + r / 262144)) = 4 := sizeB_4 (by omega) (by omega)
  have hv : runeV [u8N (128 + r / 4096 % 64), u8N (128 + r / 64 % 64), u8N (128 + r % 64)] ((u8N (240 + r / 262144)).toNat % maskN 4) = r := by
    show (((u8N (240 + r / 262144)).toNat % 8 * 64 + (u8N (128 + r / 4096 % 64)).toNat % 64) * 64 + (u8N (128 + r / 64 % 64)).toNat % 64) * 64 + (u8N (128 + r % 64)).toNat % 64 = r
    rw [hc, u8N_toNat (by omega), u8N_toNat (by omega), u8N_toNat (by omega)]
    omega
  rw [decL]
  rw [hz, show (4 : Nat) - 1 = 3 from rfl, List.take_of_length_le (by simp), hv]
  rw [if_neg (by omega), if_neg (by simp), if_pos]
  · rfl
  · unfold goodT
    rw [hv, List.all_cons, List.all_cons, List.all_cons, List.all_nil, contU_of (by omega), contU_of (by omega), contU_of (by omega), Bool.true_and, Bool.true_and, Bool.true_and, Bool.true_and, scalB_iff]
    exact ⟨⟨by show 65536 ≤ r; omega, h⟩, h2⟩
/-- A text of one code point holds nothing hidden if the code point is none. -/
theorem one_clean {l : List UInt8} {r : Nat} (h : decL l = some (r, l.length)) : errL l = none ∧ hidL ctlN l = (if ctlN r = true then some 0 else none) := by
  have hs := decL_size h
  have e0 := ErrAt.zero l
  have k0 := HidAt.zero ctlN l
  have hd : decL (l.drop 0) = some (r, l.length) := h
  refine ⟨(e0.step (by omega) hd).done (by simp), ?_⟩
  by_cases hc : ctlN r = true
  · rw [if_pos hc]; exact k0.found (by omega) hd hc
  · rw [if_neg hc]; exact (k0.step (by omega) hd (by simpa using hc)).done (by simp)
end Go.Proofs.YteecmcphbehfgaaGreatDoor
