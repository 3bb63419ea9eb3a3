/- utf8, the document's side: the code point at the head. Conditions: texts of at most 1000000 bytes that are not empty. -/
import Derived.Test.YteecmcphbehfgaaGreatDoorA5
namespace Go.Proofs.YteecmcphbehfgaaGreatDoor
open Go.RowKit Go.Lib

def RFirstPost (l : List UInt8) (w : World) (e : Ending) (w' : World) : Prop :=
  (match decL l with
   | some q => e = .returned (.tuple #[.int .i64 q.1, .int .i64 q.2, .int .i64 0])
   | none => ∃ c : Int, c ≠ 0 ∧ e = .returned (.tuple #[.int .i64 0, .int .i64 0, .int .i64 c])) ∧ Below w.heap.size w w'
theorem RFirstPost.none {l : List UInt8} {w w' : World} {c : Int} (h : decL l = none) (hc : c ≠ 0) (hb : Below w.heap.size w w') : RFirstPost l w (.returned (.tuple #[.int .i64 0, .int .i64 0, .int .i64 c])) w' := by
  refine ⟨?_, hb⟩
  rw [h]
  exact ⟨c, hc, rfl⟩
theorem RFirstPost.some {l : List UInt8} {w w' : World} {r n : Nat} (h : decL l = some (r, n)) (hb : Below w.heap.size w w') : RFirstPost l w (.returned (.tuple #[.int .i64 r, .int .i64 n, .int .i64 0])) w' := by
  refine ⟨?_, hb⟩
  rw [h]
theorem beg_one (s : ByteArray) (h : 1 ≤ s.size) (hl : leadN s[0] ≠ 0) : begB (s.extract 0 1) (leadN s[0]) (leadV s[0]) = decide (sizeB s[0] ≠ 0) := by
  unfold begB
  rw [ext_size s h, ext_tail s (by omega)]
  have e : (tlB s).take (1 - 1) = [] := rfl
  rw [e, List.all_nil, decide_eq_true (by omega)]
  show (true && true && anyB (leadN s[0]) (loN (leadV s[0]) (leadN s[0] - 1)) (hiN (leadV s[0]) (leadN s[0] - 1))) = _
  rw [any_first _ hl]
  rfl
theorem beg_full (s : ByteArray) {n : Nat} (h1 : 1 ≤ n) (hs : n ≤ s.size) (v : Nat) : begB (s.extract 0 n) n v = goodT n v ((tlB s).take (n - 1)) := by
  unfold begB
  rw [ext_size s hs, ext_tail s (by omega), Nat.sub_self, loN_zero, hiN_zero, any_one, decide_eq_true (by omega)]
  rfl
set_option maxRecDepth 100000 in
set_option maxHeartbeats 4000000 in
theorem rfirst_any (s : ByteArray) (h1 : 1 ≤ s.size) (hs : s.size ≤ 1000000) (w : World) : Calls Tryz.prog 91 #[.string s] w (RFirstPost s.data.toList w) := by
  have hx1 := ext_size s h1
  have hh1 := ext_head s (n := 1) (by omega) h1 (by omega)
  have B1 := rbegins_any (s.extract 0 1) (by omega) (by omega)
  rw [hh1] at B1
  clear hx1 hh1
  by_cases hz : sizeB s[0] = 0
  · have HD := Lib.hid (dec_size0 h1 hz)
    have hb0 : leadN s[0] ≠ 0 → begB (s.extract 0 1) (leadN s[0]) (leadV s[0]) = false := fun h => by rw [beg_one s h1 h, decide_eq_false (by omega)]
    have HB0 := Lib.hid hb0
    have C1 := Lib.hid B1
    clear hb0 hz B1
    go_enter Tryz.func91, Tryz.ntmps91
    go_wp2_with fail
    refine (C1.out _).mono ?_
    rintro e w1 ⟨he, hb1⟩
    have HB := Lib.hid hb1
    clear hb1
    rcases he with ⟨rfl, _⟩ | ⟨rfl, h0, ht⟩
    · go_wp2
      go_ret3
      exact .none HD.out (by decide) HB.out
    · exact absurd (HB0.out h0) (by rw [ht]; decide)
  have hl := lead_size s[0] hz
  have hz0 : leadN s[0] ≠ 0 := by rw [← hl]; exact hz
  have hb0 := beg_one s h1 hz0
  rw [decide_eq_true hz] at hb0
  have hlv : leadV s[0] = s[0].toNat % maskN (sizeB s[0]) := by unfold leadV; rw [if_neg hz0, hl]
  rw [← hl] at B1 hb0
  rw [hlv] at B1 hb0
  obtain ⟨n, hn⟩ : ∃ n, sizeB s[0] = n := ⟨_, rfl⟩
  have h4 : n ≤ 4 := by rw [← hn]; exact sizeB_le _
  rw [hn] at hz B1 hb0 hlv hl
  obtain ⟨v, hv⟩ : ∃ v, s[0].toNat % maskN n = v := ⟨_, rfl⟩
  rw [hv] at B1 hb0 hlv
  have HB0 := Lib.hid hb0
  have C1 := Lib.hid B1
  clear hb0 B1 hz0
  have n1 : decide (n ≤ s.size) = true ∨ decide (n ≤ s.size) = false := by cases decide (n ≤ s.size) <;> simp
  by_cases hns : n ≤ s.size
  · have hx := ext_size s hns
    have hh := ext_head s (n := n) (by omega) hns (by omega)
    have B2 := rbegins_any (s.extract 0 n) (by omega) (by omega)
    rw [hh, ← hl, hlv] at B2
    have hf := beg_full s (n := n) (by omega) hns v
    have ht := ext_tail s (n := n) (by omega)
    have HG := Lib.hid (dec_good h1 (by omega) hn hns (begB (s.extract 0 n) n v) (by rw [hf, hv]))
    rw [hv, ← ht] at HG
    have C2 := Lib.hid B2
    clear hx hh B2 hf ht hn hl hlv hv n1
    go_enter Tryz.func91, Tryz.ntmps91
    go_wp2_with fail
    refine (C1.out _).mono ?_
    rintro e w1 ⟨he, hb1⟩
    have HB := Lib.hid hb1
    clear hb1
    rcases he with ⟨rfl, h0⟩ | ⟨rfl, h0, ht⟩
    · exact absurd (h0 hz) (by rw [HB0.out]; decide)
    clear h0 ht
    go_wp2_with fail
    refine (C2.out _).mono ?_
    rintro e w2 ⟨he, hb2⟩
    have HB2 := Lib.hid (HB.out.trans (hb2.mono HB.out.size))
    clear hb2
    rcases he with ⟨rfl, h0⟩ | ⟨rfl, h0, ht⟩
    · have HD : Hid (decL s.data.toList = none) := Lib.hid (by rw [HG.out, h0 hz]; rfl)
      clear h0
      go_wp2
      go_ret3
      exact .none HD.out (by decide) HB2.out
    · have HD : Hid (decL s.data.toList = some (runeV (tlB (s.extract 0 n)) v, n)) := Lib.hid (by rw [HG.out, ht]; rfl)
      clear h0 ht
      go_wp2
      go_ret3
      exact .some HD.out HB2.out
  · have HD := Lib.hid (dec_short h1 hn (by omega))
    have B2 := rbegins_any s h1 hs
    have C2 := Lib.hid B2
    clear B2 hn hl hlv hv n1
    go_enter Tryz.func91, Tryz.ntmps91
    go_wp2_with fail
    refine (C1.out _).mono ?_
    rintro e w1 ⟨he, hb1⟩
    have HB := Lib.hid hb1
    clear hb1
    rcases he with ⟨rfl, h0⟩ | ⟨rfl, h0, ht⟩
    · exact absurd (h0 hz) (by rw [HB0.out]; decide)
    clear h0 ht
    go_wp2_with fail
    refine (C2.out _).mono ?_
    rintro e w2 ⟨he, hb2⟩
    have HB2 := Lib.hid (HB.out.trans (hb2.mono HB.out.size))
    clear hb2
    rcases he with ⟨rfl, h0⟩ | ⟨rfl, h0, ht⟩
    all_goals
      clear h0
      try clear ht
      go_wp2
      go_ret3
      exact .none HD.out (by decide) HB2.out
end Go.Proofs.YteecmcphbehfgaaGreatDoor
