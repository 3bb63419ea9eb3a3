/- Classes of bytes, the span of a class, the words of a text: the plain functions and the walks of package ascii over this translation.
   Conditions: texts of at most 1000000 bytes. -/
import Derived.Test.YteecmcphbehfgaaGreatDoorMem
import Derived.Deep.DeepFit
import Derived.Shelf.Abstract
namespace Go.Proofs.YteecmcphbehfgaaGreatDoor
open Go.RowKit Go.Lib

theorem ret_int {k : IntKind} {a b : Int} (h : a = b) : Ending.returned (.int k a) = .returned (.int k b) := by rw [h]

/-! ### plain -/
def lowB (c : UInt8) : Bool := decide (97 ≤ c.toNat) && decide (c.toNat ≤ 122)
def uppB (c : UInt8) : Bool := decide (65 ≤ c.toNat) && decide (c.toNat ≤ 90)
def letB (c : UInt8) : Bool := lowB c || uppB c
def digB (c : UInt8) : Bool := decide (48 ≤ c.toNat) && decide (c.toNat ≤ 57)
def visB (c : UInt8) : Bool := decide (33 ≤ c.toNat) && decide (c.toNat ≤ 126)
def blkB (c : UInt8) : Bool := decide (c.toNat = 32) || decide (c.toNat = 9)
def nblkB (c : UInt8) : Bool := !blkB c
def prtB (c : UInt8) : Bool := decide (c.toNat = 32) || visB c

/-- A byte as it stands in a slot. -/
def byV (c : UInt8) : Value := .int .u8 c.toNat

theorem range_split (c : UInt8) (a b : Nat) : (c.toNat < a ∧ (decide (a ≤ c.toNat) && decide (c.toNat ≤ b)) = false) ∨ (a ≤ c.toNat ∧ b < c.toNat ∧ (decide (a ≤ c.toNat) && decide (c.toNat ≤ b)) = false) ∨ (a ≤ c.toNat ∧ c.toNat ≤ b ∧ (decide (a ≤ c.toNat) && decide (c.toNat ≤ b)) = true) := by
  by_cases h1 : a ≤ c.toNat
  · by_cases h2 : c.toNat ≤ b
    · exact .inr (.inr ⟨h1, h2, by simp [h1, h2]⟩)
    · exact .inr (.inl ⟨h1, by omega, by simp [h2]⟩)
  · exact .inl ⟨by omega, by simp [h1]⟩

theorem two_split (c : UInt8) : (c.toNat = 32 ∧ (decide (c.toNat = 32) || decide (c.toNat = 9)) = true) ∨ (c.toNat ≠ 32 ∧ c.toNat = 9 ∧ (decide (c.toNat = 32) || decide (c.toNat = 9)) = true) ∨ (c.toNat ≠ 32 ∧ c.toNat ≠ 9 ∧ (decide (c.toNat = 32) || decide (c.toNat = 9)) = false) := by
  by_cases h1 : c.toNat = 32
  · exact .inl ⟨h1, by simp [h1]⟩
  · by_cases h2 : c.toNat = 9
    · exact .inr (.inl ⟨h1, h2, by simp [h2]⟩)
    · exact .inr (.inr ⟨h1, h2, by simp [h1, h2]⟩)

section
set_option maxHeartbeats 400000
theorem isLower_any (c : UInt8) (w : World) : Calls Tryz.prog 144 #[.int .u8 c.toNat] w fun e w' => e = .returned (.bool (lowB c)) ∧ w = w' := by
  unfold lowB
  rcases range_split c 97 122 with ⟨h1, hb⟩ | ⟨h1, h2, hb⟩ | ⟨h1, h2, hb⟩ <;> rw [hb] <;> clear hb
  all_goals
    go_enter Tryz.func144, Tryz.ntmps144
    go_wp2
    all_goals first | (exfalso; omega) | (go_ret; exact ⟨by simp; try omega, rfl⟩)

theorem isUpper_any (c : UInt8) (w : World) : Calls Tryz.prog 145 #[.int .u8 c.toNat] w fun e w' => e = .returned (.bool (uppB c)) ∧ w = w' := by
  unfold uppB
  rcases range_split c 65 90 with ⟨h1, hb⟩ | ⟨h1, h2, hb⟩ | ⟨h1, h2, hb⟩ <;> rw [hb] <;> clear hb
  all_goals
    go_enter Tryz.func145, Tryz.ntmps145
    go_wp2
    all_goals first | (exfalso; omega) | (go_ret; exact ⟨by simp; try omega, rfl⟩)

theorem isDigit_any (c : UInt8) (w : World) : Calls Tryz.prog 138 #[.int .u8 c.toNat] w fun e w' => e = .returned (.bool (digB c)) ∧ w = w' := by
  unfold digB
  rcases range_split c 48 57 with ⟨h1, hb⟩ | ⟨h1, h2, hb⟩ | ⟨h1, h2, hb⟩ <;> rw [hb] <;> clear hb
  all_goals
    go_enter Tryz.func138, Tryz.ntmps138
    go_wp2
    all_goals first | (exfalso; omega) | (go_ret; exact ⟨by simp; try omega, rfl⟩)

theorem isVisible_any (c : UInt8) (w : World) : Calls Tryz.prog 136 #[.int .u8 c.toNat] w fun e w' => e = .returned (.bool (visB c)) ∧ w = w' := by
  unfold visB
  rcases range_split c 33 126 with ⟨h1, hb⟩ | ⟨h1, h2, hb⟩ | ⟨h1, h2, hb⟩ <;> rw [hb] <;> clear hb
  all_goals
    go_enter Tryz.func136, Tryz.ntmps136
    go_wp2
    all_goals first | (exfalso; omega) | (go_ret; exact ⟨by simp; try omega, rfl⟩)

theorem lowercase_any (c : UInt8) (w : World) : Calls Tryz.prog 93 #[.int .u8 c.toNat] w fun e w' => e = .returned (.bool (lowB c)) ∧ w = w' := by
  unfold lowB
  rcases range_split c 97 122 with ⟨h1, hb⟩ | ⟨h1, h2, hb⟩ | ⟨h1, h2, hb⟩ <;> rw [hb] <;> clear hb
  all_goals
    go_enter Tryz.func93, Tryz.ntmps93
    go_wp2
    all_goals first | (exfalso; omega) | (go_ret; exact ⟨by simp; try omega, rfl⟩)

theorem uppercase_any (c : UInt8) (w : World) : Calls Tryz.prog 94 #[.int .u8 c.toNat] w fun e w' => e = .returned (.bool (uppB c)) ∧ w = w' := by
  unfold uppB
  rcases range_split c 65 90 with ⟨h1, hb⟩ | ⟨h1, h2, hb⟩ | ⟨h1, h2, hb⟩ <;> rw [hb] <;> clear hb
  all_goals
    go_enter Tryz.func94, Tryz.ntmps94
    go_wp2
    all_goals first | (exfalso; omega) | (go_ret; exact ⟨by simp; try omega, rfl⟩)

theorem rdigit_any (c : UInt8) (w : World) : Calls Tryz.prog 95 #[.int .u8 c.toNat] w fun e w' => e = .returned (.bool (digB c)) ∧ w = w' := by
  unfold digB
  rcases range_split c 48 57 with ⟨h1, hb⟩ | ⟨h1, h2, hb⟩ | ⟨h1, h2, hb⟩ <;> rw [hb] <;> clear hb
  all_goals
    go_enter Tryz.func95, Tryz.ntmps95
    go_wp2
    all_goals first | (exfalso; omega) | (go_ret; exact ⟨by simp; try omega, rfl⟩)

theorem rvisible_any (c : UInt8) (w : World) : Calls Tryz.prog 67 #[.int .u8 c.toNat] w fun e w' => e = .returned (.bool (visB c)) ∧ w = w' := by
  unfold visB
  rcases range_split c 33 126 with ⟨h1, hb⟩ | ⟨h1, h2, hb⟩ | ⟨h1, h2, hb⟩ <;> rw [hb] <;> clear hb
  all_goals
    go_enter Tryz.func67, Tryz.ntmps67
    go_wp2
    all_goals first | (exfalso; omega) | (go_ret; exact ⟨by simp; try omega, rfl⟩)

theorem isBlank_any (c : UInt8) (w : World) : Calls Tryz.prog 115 #[.int .u8 c.toNat] w fun e w' => e = .returned (.bool (blkB c)) ∧ w = w' := by
  unfold blkB
  rcases two_split c with ⟨h1, hb⟩ | ⟨h1, h2, hb⟩ | ⟨h1, h2, hb⟩ <;> rw [hb] <;> clear hb
  all_goals
    go_enter Tryz.func115, Tryz.ntmps115
    go_wp2
    all_goals first | (exfalso; omega) | (go_ret; exact ⟨by simp; try omega, rfl⟩)

theorem rblank_any (c : UInt8) (w : World) : Calls Tryz.prog 68 #[.int .u8 c.toNat] w fun e w' => e = .returned (.bool (blkB c)) ∧ w = w' := by
  unfold blkB
  rcases two_split c with ⟨h1, hb⟩ | ⟨h1, h2, hb⟩ | ⟨h1, h2, hb⟩ <;> rw [hb] <;> clear hb
  all_goals
    go_enter Tryz.func68, Tryz.ntmps68
    go_wp2
    all_goals first | (exfalso; omega) | (go_ret; exact ⟨by simp; try omega, rfl⟩)

theorem isLetter_any (c : UInt8) (w : World) : Calls Tryz.prog 137 #[.int .u8 c.toNat] w fun e w' => e = .returned (.bool (letB c)) ∧ w = w' := by
  unfold letB
  cases hl : lowB c <;> have HL := Lib.hid hl <;> clear hl
  all_goals
    go_enter Tryz.func137, Tryz.ntmps137
    go_wp2_with (first
      | (go_at_call 144; refine (isLower_any c w).mono ?_; rintro e w' ⟨rfl, rfl⟩; simp only [HL.out])
      | (go_at_call 145; refine (isUpper_any c w).mono ?_; rintro e w' ⟨rfl, rfl⟩))
    go_ret
    exact ⟨rfl, rfl⟩

theorem prt_any (c : UInt8) (w : World) : Calls Tryz.prog 140 #[.int .u8 c.toNat] w fun e w' => e = .returned (.bool (prtB c)) ∧ w = w' := by
  unfold prtB
  have hs : (c.toNat = 32 ∧ decide (c.toNat = 32) = true) ∨ (c.toNat ≠ 32 ∧ decide (c.toNat = 32) = false) := by
    by_cases h : c.toNat = 32
    · exact .inl ⟨h, decide_eq_true h⟩
    · exact .inr ⟨h, decide_eq_false h⟩
  rcases hs with ⟨h, hb⟩ | ⟨h, hb⟩ <;> rw [hb] <;> clear hb
  all_goals
    go_enter Tryz.func140, Tryz.ntmps140
    go_wp2_with (go_at_call 136; refine (isVisible_any c w).mono ?_; rintro e w' ⟨rfl, rfl⟩)
    all_goals first | (exfalso; omega) | (go_ret; exact ⟨by first | (simp; done) | (simp; intro; omega), rfl⟩)

/-- not(IsBlank), the closure: its captured variable lies in block b. -/
theorem nblk_any (b : Nat) (c : UInt8) (w : World) (hc : w.cell? ⟨b, 0, none⟩ = some (.func (.func 115) #[] #[])) :
    Calls Tryz.prog 146 #[.int .u8 c.toNat, .pointer (some ⟨b, 0, none⟩)] w fun e w' => e = .returned (.bool (nblkB c)) ∧ w = w' := by
  go_enter Tryz.func146, Tryz.ntmps146
  go_wp2_with (go_at_call 115; refine (isBlank_any c w).mono ?_; rintro e w' ⟨rfl, rfl⟩)
  go_ret
  exact ⟨rfl, rfl⟩

/-- What a class of bytes, a function value, is in a world: quiet, and p. -/
def ClassAt (g : Nat) (lb : Array Value) (p : UInt8 → Bool) (w : World) : Prop :=
  ∀ c : UInt8, Calls Tryz.prog g (#[.int .u8 c.toNat] ++ lb) w fun e w' => e = .returned (.bool (p c)) ∧ w = w'
theorem class_blk (w : World) : ClassAt 115 #[] blkB w := fun c => isBlank_any c w
theorem class_prt (w : World) : ClassAt 140 #[] prtB w := fun c => prt_any c w
theorem class_nblk (b : Nat) (w : World) (hc : w.cell? ⟨b, 0, none⟩ = some (.func (.func 115) #[] #[])) : ClassAt 146 #[.pointer (some ⟨b, 0, none⟩)] nblkB w :=
  fun c => nblk_any b c w hc

/-! ### the span of a class -/
/-- The offset of the first byte from i on that is not in the class, or the length. -/
def spanL (p : UInt8 → Bool) (l : List UInt8) (i : Nat) : Nat := i + ((l.drop i).takeWhile p).length
theorem spanL_step {p : UInt8 → Bool} {l : List UInt8} {i : Nat} (h : i < l.length) (hp : p l[i] = true) : spanL p l i = spanL p l (i + 1) := by
  unfold spanL
  rw [List.drop_eq_getElem_cons h, List.takeWhile_cons, if_pos hp, List.length_cons]
  omega
theorem spanL_stop {p : UInt8 → Bool} {l : List UInt8} {i : Nat} (h : i < l.length) (hp : p l[i] = false) : spanL p l i = i := by
  unfold spanL
  rw [List.drop_eq_getElem_cons h, List.takeWhile_cons, hp]
  simp
theorem spanL_end {p : UInt8 → Bool} {l : List UInt8} {i : Nat} (h : l.length ≤ i) : spanL p l i = i := by
  unfold spanL
  rw [List.drop_eq_nil_of_le h]
  rfl
theorem spanL_ge (p : UInt8 → Bool) (l : List UInt8) (i : Nat) : i ≤ spanL p l i := by unfold spanL; omega
theorem spanL_le (p : UInt8 → Bool) (l : List UInt8) (i : Nat) (h : i ≤ l.length) : spanL p l i ≤ l.length := by
  unfold spanL
  have := (List.takeWhile_prefix p (l := l.drop i)).length_le
  rw [List.length_drop] at this
  omega

theorem span_any (s : ByteArray) (i g : Nat) (lb : Array Value) (p : UInt8 → Bool) (w : World) (hi : i ≤ s.size) (hs : s.size ≤ 1000000) (hp : ClassAt g lb p w) (eg : ∀ (args : Array Value) (w : World), (callFunc g args).run Tryz.prog w = .ok (.enter g args) w) :
    Calls Tryz.prog 139 #[.string s, .int .i64 i, .func (.func g) #[] lb] w fun e w' => e = .returned (.int .i64 (spanL p s.data.toList i)) ∧ w = w' := by
  have HP := Lib.hid hp
  clear hp
  have hll : s.data.toList.length = s.size := by simp
  have HL := Lib.hid hll
  clear hll
  go_enter Tryz.func139, Tryz.ntmps139
  go_wp2
  go_loop [1] (fun v => ∃ k : Nat, k ≤ s.size ∧ v = .int .i64 k ∧ spanL p s.data.toList i = spanL p s.data.toList k) (fun v => s.size - (intOf v).toNat)
  case atStart => exact ⟨i, hi, rfl, rfl⟩
  case round =>
    obtain ⟨k, hk, rfl, hsp⟩ := hrel
    have HS := Lib.hid hsp
    clear hsp
    by_cases hlt : k < s.size
    · have hk' : k < s.data.toList.length := by rw [HL.out]; exact hlt
      have hc : ∀ b, p s[k] = b → Hid (Calls Tryz.prog g (#[.int .u8 s[k].toNat] ++ lb) w fun e w' => e = .returned (.bool b) ∧ w = w') := fun b hb => by rw [← hb]; exact Lib.hid (HP.out s[k])
      cases hb : p s[k]
      · have HC := hc _ hb
        have HB : Hid (p s.data.toList[k] = false) := Lib.hid hb
        clear hc hb
        go_wp2_with (go_at_fn g; refine HC.out.mono ?_; rintro e w' ⟨rfl, rfl⟩)
        go_ret
        exact ⟨ret_int (by rw [HS.out, spanL_stop hk' HB.out]), rfl⟩
      · have HC := hc _ hb
        have HB : Hid (p s.data.toList[k] = true) := Lib.hid hb
        clear hc hb
        go_wp2_with (go_at_fn g; refine HC.out.mono ?_; rintro e w' ⟨rfl, rfl⟩)
        go_round
        case rel => exact ⟨k + 1, by omega, by go_num, by rw [HS.out, spanL_step hk' HB.out]⟩
        case measure => simp [intOf]; omega
    · obtain rfl : k = s.size := by omega
      go_wp2
      go_ret
      exact ⟨ret_int (by rw [HS.out, spanL_end (by rw [HL.out]; exact Nat.le_refl _)]), rfl⟩
end
end Go.Proofs.YteecmcphbehfgaaGreatDoor
