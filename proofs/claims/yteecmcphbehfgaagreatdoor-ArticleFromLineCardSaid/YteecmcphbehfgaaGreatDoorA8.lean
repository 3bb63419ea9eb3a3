/- utf8: Check, Valid, the membership in a class. Conditions: texts of at most 1000000 bytes. -/
import Derived.Test.YteecmcphbehfgaaGreatDoorA7
import Derived.Test.YteecmcphbehfgaaGreatDoorF16
namespace Go.Proofs.YteecmcphbehfgaaGreatDoor
open Go.RowKit Go.Lib Go.Shelf

/-- Check tells where the first error is. -/
def CheckPost (l : List UInt8) (w : World) (e : Ending) (w' : World) : Prop :=
  (match errL l with
   | none => e = .returned (.tuple #[.int .i64 0, .int .i64 0])
   | some a => ∃ c : Int, c ≠ 0 ∧ e = .returned (.tuple #[.int .i64 (a : Nat), .int .i64 c])) ∧ Below w.heap.size w w'
theorem CheckPost.ok {l : List UInt8} {w w' : World} (h : errL l = none) (hb : Below w.heap.size w w') : CheckPost l w (.returned (.tuple #[.int .i64 0, .int .i64 0])) w' := by
  refine ⟨?_, hb⟩
  rw [h]
theorem CheckPost.bad {l : List UInt8} {w w' : World} {a : Nat} {c : Int} (h : errL l = some a) (hc : c ≠ 0) (hb : Below w.heap.size w w') : CheckPost l w (.returned (.tuple #[.int .i64 a, .int .i64 c])) w' := by
  refine ⟨?_, hb⟩
  rw [h]
  exact ⟨c, hc, rfl⟩
theorem ext_drop (s : ByteArray) (a : Nat) : (s.extract a s.size).data.toList = s.data.toList.drop a := by
  rw [ByteArray.data_extract, Array.toList_extract]
  show ((s.data.toList.drop a).take (s.size - a)) = _
  rw [List.take_of_length_le (by rw [List.length_drop]; simp)]

set_option maxRecDepth 100000 in
set_option maxHeartbeats 4000000 in
theorem ucheck_any (s : ByteArray) (hs : s.size ≤ 1000000) (w : World) : Calls Tryz.prog 62 #[.string s] w (CheckPost s.data.toList w) := by
  have hll : s.data.toList.length = s.size := by simp
  have HLL := Lib.hid hll
  clear hll
  go_enter Tryz.func62, Tryz.ntmps62
  go_wp2
  go_loopw [4] (fun v wr => ∃ a : Nat, v = .int .i64 a ∧ ErrAt s.data.toList a (errL s.data.toList) ∧ Below w.heap.size w wr) (fun v _ => s.size - (RowKit.intOf v).toNat)
  case atStart => exact ⟨0, rfl, ErrAt.zero _, Below.refl _ _⟩
  case round =>
    obtain ⟨a, rfl, he, hb⟩ := hrel
    have ha : a ≤ s.size := by rw [← HLL.out]; exact he.1
    have HE := Lib.hid he
    have HB := Lib.hid hb
    clear he hb
    by_cases hlt : a < s.size
    · have hx := ext_drop s a
      have hxs : (s.extract a s.size).size = s.size - a := by simp
      have CF := Lib.hid (first_any (s.extract a s.size) (by omega) (by omega))
      rw [hx] at CF
      have hlt' : a < s.data.toList.length := by rw [HLL.out]; exact hlt
      clear hx hxs
      cases hd : decL (s.data.toList.drop a) with
      | none =>
        have HN := Lib.hid (HE.out.no hlt' hd)
        have HD := Lib.hid hd
        clear hd hlt'
        go_wp2_with fail
        refine (CF.out _).mono ?_
        rintro e w1 ⟨he, hb1⟩
        rw [HD.out] at he
        obtain ⟨c, hc0, rfl⟩ := he
        have hcb : (c != 0) = true := by simp [hc0]
        have HB1 := Lib.hid (HB.out.trans (hb1.mono HB.out.size))
        clear hb1
        have HC0 := Lib.hid hc0
        clear hc0
        go_wp2
        go_ret2
        exact .bad HN.out HC0.out HB1.out
      | some q =>
        have hnx := HE.out.step hlt' hd
        have hz := drop_size hd
        rw [HLL.out] at hz
        have HNX := Lib.hid hnx
        have HD := Lib.hid hd
        obtain ⟨qr, qn⟩ := q
        simp only at hz
        clear hd hnx hlt'
        go_wp2_with fail
        refine (CF.out _).mono ?_
        rintro e w1 ⟨he, hb1⟩
        rw [HD.out] at he
        subst he
        have HB1 := Lib.hid (HB.out.trans (hb1.mono HB.out.size))
        clear hb1
        go_wp2
        go_roundw
        case rel => exact ⟨a + qn, by go_num, HNX.out, HB1.out⟩
        case measure => simp [RowKit.intOf]; omega
    · have HN := Lib.hid (HE.out.done (by rw [HLL.out]; omega))
      go_wp2
      go_ret2
      exact .ok HN.out HB.out

theorem uvalid_any (s : ByteArray) (hs : s.size ≤ 1000000) (w : World) : Calls Tryz.prog 89 #[.string s] w fun e w' => e = .returned (.bool (errL s.data.toList).isNone) ∧ Below w.heap.size w w' := by
  have C := Lib.hid (ucheck_any s hs)
  go_enter Tryz.func89, Tryz.ntmps89
  go_wp2_with fail
  refine (C.out _).mono ?_
  rintro e w1 ⟨he, hb⟩
  cases hd : errL s.data.toList with
  | none =>
    rw [hd] at he
    subst he
    have HB := Lib.hid hb
    have HD := Lib.hid hd
    clear hb hd
    go_wp2
    go_ret
    exact ⟨ret_boolA (by first | rfl | (rw [HD.out]; rfl)), HB.out⟩
  | some a =>
    rw [hd] at he
    obtain ⟨c, hc, rfl⟩ := he
    have hcb : (c == 0) = false := by simp [hc]
    have HB := Lib.hid hb
    have HD := Lib.hid hd
    clear hb hd hc
    go_wp2
    go_ret
    exact ⟨ret_boolA (by first | rfl | (rw [HD.out]; rfl)), HB.out⟩

theorem within_any (r mn mx : Nat) (la lb mb : Int) (hr : r ≤ 1114111) (hsu : ¬ (55296 ≤ r ∧ r ≤ 57343)) (w : World) :
    Calls Tryz.prog 88 #[.agg #[.int .u8 la, .int .u8 lb, .int .u8 mb, .int .i32 (mn : Int), .int .i32 (mx : Int)], .int .i32 (r : Int)] w fun e w' => e = .returned (.bool (decide (mn ≤ r) && decide (r ≤ mx))) ∧ Below w.heap.size w w' := by
  have HR := Lib.hid hr
  clear hr
  have HE : Hid (∀ b : Bool, (b = true ↔ mn ≤ r ∧ r ≤ mx) → Ending.returned (.bool b) = Ending.returned (.bool (decide (mn ≤ r) && decide (r ≤ mx)))) := Lib.hid fun b hb => by
    apply ret_boolA
    rw [Bool.eq_iff_iff, hb]
    simp
  by_cases h1 : mn ≤ r
  · by_cases h2 : r ≤ mx
    · by_cases h3 : (r : Int) < 55296
      · go_enter Tryz.func88, Tryz.ntmps88
        go_wp2
        go_ret
        first | exact ⟨rfl, (Below.refl _ _).alloc (Nat.le_refl _) _⟩ | exact ⟨HE.out _ ⟨fun _ => ⟨h1, h2⟩, fun _ => rfl⟩, (Below.refl _ _).alloc (Nat.le_refl _) _⟩
      · have h4 : (57343 : Int) < r := by omega
        go_enter Tryz.func88, Tryz.ntmps88
        go_wp2
        go_ret
        first | exact ⟨rfl, (Below.refl _ _).alloc (Nat.le_refl _) _⟩ | exact ⟨HE.out _ ⟨fun _ => ⟨h1, h2⟩, fun _ => rfl⟩, (Below.refl _ _).alloc (Nat.le_refl _) _⟩
    · go_enter Tryz.func88, Tryz.ntmps88
      go_wp2
      go_ret
      first | exact ⟨rfl, (Below.refl _ _).alloc (Nat.le_refl _) _⟩ | exact ⟨HE.out _ ⟨fun f => absurd f (by decide), fun f => absurd f.2 h2⟩, (Below.refl _ _).alloc (Nat.le_refl _) _⟩
  · go_enter Tryz.func88, Tryz.ntmps88
    go_wp2
    go_ret
    first | exact ⟨rfl, (Below.refl _ _).alloc (Nat.le_refl _) _⟩ | exact ⟨HE.out _ ⟨fun f => absurd f (by decide), fun f => absurd f.1 h1⟩, (Below.refl _ _).alloc (Nat.le_refl _) _⟩

end Go.Proofs.YteecmcphbehfgaaGreatDoor
