/- article: CheckBody. Conditions: texts of at most 1000000 bytes. -/
import Derived.Test.YteecmcphbehfgaaGreatDoorB1
import Derived.Test.YteecmcphbehfgaaGreatDoorP5
namespace Go.Proofs.YteecmcphbehfgaaGreatDoor
open Go.RowKit Go.Lib

set_option maxRecDepth 100000 in
set_option maxHeartbeats 4000000 in
theorem checkBody_any (s : ByteArray) (hs : s.size ≤ 1000000) (w : World) : Calls Tryz.prog 12 #[.string s] w (CkPost s.data.toList w) := by
  have hll : s.data.toList.length = s.size := by simp
  have HLL := Lib.hid hll
  clear hll
  go_enter Tryz.func12, Tryz.ntmps12
  go_wp2
  go_loopw [4] (fun v wr => ∃ a : Nat, v = .int .i64 a ∧ CkAt s.data.toList a (ckI s.data.toList) ∧ Below w.heap.size w wr) (fun v _ => s.size - (RowKit.intOf v).toNat)
  case atStart => exact ⟨0, rfl, CkAt.zero _, Below.refl _ _⟩
  case round =>
    obtain ⟨a, rfl, hc, hb⟩ := hrel
    have ha : a ≤ s.size := by rw [← HLL.out]; exact hc.1
    have HC := Lib.hid hc
    have HB := Lib.hid hb
    clear hc hb
    by_cases hlt : a < s.size
    · have hlt' : a < s.data.toList.length := by rw [HLL.out]; exact hlt
      have HLT := Lib.hid hlt'
      have hx := ext_drop s a
      have hxs : (s.extract a s.size).size = s.size - a := by simp
      have CF := Lib.hid (cutn_any (s.extract a s.size) (by omega))
      obtain ⟨n, hn⟩ : ∃ n, lnN s.data.toList a = n := ⟨_, rfl⟩
      have hnle : n ≤ s.size - a := by have := lnN_le s.data.toList a; rw [HLL.out] at this; omega
      have hsp : spanL nlB (s.extract a s.size).data.toList 0 = n := by rw [hx]; exact hn
      have hty : ((s.extract a s.size).extract 0 n).data.toList = (s.data.toList.drop a).take n := by
        rw [ByteArray.data_extract, Array.toList_extract, hx]
        rfl
      have hts : ((s.extract a s.size).extract 0 n).size = n := by simp; omega
      have HX := Lib.hid hsp
      have HXS := Lib.hid hxs
      have HN := Lib.hid hn
      have HTY := Lib.hid hty
      clear hx hxs hn hsp hlt' hty
      by_cases hz : n = s.size - a
      · have HE := Lib.hid (HC.out.short HLT.out (by rw [HN.out, HLL.out]; exact hz))
        go_wp2_with fail
        refine (CF.out _).mono ?_
        rintro e w1 ⟨he, hb1⟩
        rw [HX.out, HXS.out, if_pos hz] at he
        subst he
        have HB1 := Lib.hid (HB.out.trans (hb1.mono HB.out.size))
        clear hb1
        go_wp2
        go_ret2
        exact .mk (by rw [HE.out, HLL.out]) HB1.out
      have hnz : lnN s.data.toList a ≠ s.data.toList.length - a := by rw [HN.out, HLL.out]; exact hz
      have HNZ := Lib.hid hnz
      have hlt2 : n < s.size - a := by omega
      clear hnz
      by_cases h9 : 998 < n
      · have HE := Lib.hid (HC.out.long HLT.out HNZ.out (by rw [HN.out]; exact h9))
        go_wp2_with fail
        refine (CF.out _).mono ?_
        rintro e w1 ⟨he, hb1⟩
        rw [HX.out, HXS.out, if_neg hz] at he
        subst he
        have HB1 := Lib.hid (HB.out.trans (hb1.mono HB.out.size))
        clear hb1 hz
        go_wp2
        go_ret2
        exact .mk (by rw [HE.out]) HB1.out
      have CB := Lib.hid (badByte_any ((s.extract a s.size).extract 0 n) (by omega))
      obtain ⟨b, hb⟩ : ∃ b, badI ((s.data.toList.drop a).take n) = b := ⟨_, rfl⟩
      have hbb := badI_bd ((s.data.toList.drop a).take n)
      rw [hb, List.length_take] at hbb
      have hbn : b ≤ n := by omega
      obtain ⟨hb1', _⟩ := hbb
      have HBI := Lib.hid hb
      clear hb
      go_wp2_with fail
      refine (CF.out _).mono ?_
      rintro e w1 ⟨he, hb1⟩
      rw [HX.out, HXS.out, if_neg hz] at he
      subst he
      have HB1 := Lib.hid (HB.out.trans (hb1.mono HB.out.size))
      clear hb1 hz
      generalize (s.extract a s.size).extract 0 n = L at *
      go_wp2_with fail
      refine (CB.out _).mono ?_
      rintro e w2 ⟨he, hb2⟩
      rw [HTY.out, HBI.out] at he
      subst he
      have HB2 := Lib.hid (HB1.out.trans (hb2.mono HB1.out.size))
      clear hb2
      by_cases hbp : 0 ≤ b
      · have HE := Lib.hid (HC.out.bad HLT.out HNZ.out (by rw [HN.out]; omega) (by rw [HN.out, HBI.out]; exact hbp))
        go_wp2
        go_ret2
        exact .mk (by rw [HE.out, HN.out, HBI.out]) HB2.out
      · have HE := Lib.hid (HC.out.next HLT.out HNZ.out (by rw [HN.out]; omega) (by rw [HN.out, HBI.out]; exact hbp))
        go_wp2
        go_roundw
        case rel => exact ⟨a + n + 1, by go_num, by have := HE.out; rw [HN.out] at this; exact this, HB2.out⟩
        case measure => simp [RowKit.intOf]; omega
    · have HE := Lib.hid (HC.out.done (by rw [HLL.out]; omega))
      go_wp2
      go_ret2
      exact .mk HE.out HB.out
end Go.Proofs.YteecmcphbehfgaaGreatDoor
