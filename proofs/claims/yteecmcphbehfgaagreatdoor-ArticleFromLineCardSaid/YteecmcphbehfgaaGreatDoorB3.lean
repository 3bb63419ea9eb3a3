/- article, the document's side: the end of a line, the first error of a body. Conditions: texts of at most 1000000 bytes. -/
import Derived.Test.YteecmcphbehfgaaGreatDoorP5
import Derived.Test.YteecmcphbehfgaaGreatDoorA13
namespace Go.Proofs.YteecmcphbehfgaaGreatDoor
open Go.RowKit Go.Lib

theorem lnN_span (l : List UInt8) (a : Nat) : spanL nlB l a = a + lnN l a := by unfold lnN spanL; simp
set_option maxRecDepth 100000 in
set_option maxHeartbeats 4000000 in
theorem rend_any (s : ByteArray) (hs : s.size ≤ 1000000) (a : Nat) (ha : a ≤ s.size) (w : World) : Calls Tryz.prog 35 #[.string s, .int .i64 (a : Int)] w fun e w' => e = .returned (.int .i64 ((a + lnN s.data.toList a : Nat) : Int)) ∧ Below w.heap.size w w' := by
  have hll : s.data.toList.length = s.size := by simp
  have HLL := Lib.hid hll
  have HSP := Lib.hid (lnN_span s.data.toList a)
  clear hll
  go_enter Tryz.func35, Tryz.ntmps35
  go_wp2
  go_loopw [1] (fun v wr => ∃ k : Nat, v = .int .i64 k ∧ k ≤ s.size ∧ spanL nlB s.data.toList a = spanL nlB s.data.toList k ∧ Below w.heap.size w wr) (fun v _ => s.size - (RowKit.intOf v).toNat)
  case atStart => exact ⟨a, rfl, ha, rfl, Below.refl _ _⟩
  case round =>
    obtain ⟨k, rfl, hk, hsp, hb⟩ := hrel
    have HS := Lib.hid hsp
    have HB := Lib.hid hb
    clear hsp hb
    by_cases hlt : k < s.size
    · have hlt' : k < s.data.toList.length := by rw [HLL.out]; exact hlt
      have hce : s.data.toList[k] = s[k] := rfl
      have HCE := Lib.hid hce
      by_cases hc : s[k].toNat = 10
      · have HST : Hid (spanL nlB s.data.toList k = k) := Lib.hid (spanL_stop hlt' (by rw [HCE.out]; unfold nlB; simp [hc]))
        have hcb : ((s[k].toNat : Int) != 10) = false := by simp; omega
        clear hce hc
        go_wp2
        go_ret
        exact ⟨ret_int (by rw [← HSP.out, HS.out, HST.out]), HB.out⟩
      · have HST : Hid (spanL nlB s.data.toList k = spanL nlB s.data.toList (k + 1)) := Lib.hid (spanL_step hlt' (by rw [HCE.out]; unfold nlB; simp [hc]))
        have hcb : ((s[k].toNat : Int) != 10) = true := by simp; omega
        clear hce hc
        go_wp2
        go_roundw
        case rel => exact ⟨k + 1, by go_num, by omega, by rw [HS.out, HST.out], HB.out⟩
        case measure => simp [RowKit.intOf]; omega
    · obtain rfl : k = s.size := by omega
      have HST : Hid (spanL nlB s.data.toList s.size = s.size) := Lib.hid (spanL_end (by rw [HLL.out]; exact Nat.le_refl _))
      go_wp2
      go_ret
      exact ⟨ret_int (by rw [← HSP.out, HS.out, HST.out]), HB.out⟩

set_option maxRecDepth 100000 in
set_option maxHeartbeats 4000000 in
theorem rbody_any (s : ByteArray) (hs : s.size ≤ 1000000) (w : World) : Calls Tryz.prog 13 #[.string s] w (CkPost s.data.toList w) := by
  have hll : s.data.toList.length = s.size := by simp
  have HLL := Lib.hid hll
  clear hll
  go_enter Tryz.func13, Tryz.ntmps13
  go_wp2
  go_loopw [4] (fun v wr => ∃ a : Nat, v = .int .i64 a ∧ CkAt s.data.toList a (ckI s.data.toList) ∧ Below w.heap.size w wr) (fun v _ => s.size - (RowKit.intOf v).toNat)
  case atStart => exact ⟨0, rfl, CkAt.zero _, Below.refl _ _⟩
  case round =>
    obtain ⟨a, rfl, hc, hb⟩ := hrel
    have ha : a ≤ s.size := by rw [← HLL.out]; exact hc.1
    have HC := Lib.hid hc
    have HB := Lib.hid hb
    clear hc hb
    by_cases hlt : a < s.size
    · have hlt' : a < s.data.toList.length := by rw [HLL.out]; exact hlt
      have HLT := Lib.hid hlt'
      have CE := Lib.hid (rend_any s hs a ha)
      obtain ⟨n, hn⟩ : ∃ n, lnN s.data.toList a = n := ⟨_, rfl⟩
      have hnle : n ≤ s.size - a := by have := lnN_le s.data.toList a; rw [HLL.out] at this; omega
      have hty : (s.extract a (a + n)).data.toList = (s.data.toList.drop a).take n := by
        rw [ByteArray.data_extract, Array.toList_extract]
        show (s.data.toList.drop a).take (a + n - a) = _
        rw [Nat.add_sub_cancel_left]
      have hts : (s.extract a (a + n)).size = n := by simp; omega
      rw [hn] at CE
      have HN := Lib.hid hn
      have HTY := Lib.hid hty
      clear hn hlt' hty
      obtain ⟨t, ht⟩ : ∃ t, a + n = t := ⟨_, rfl⟩
      rw [ht] at CE hts HTY
      have ht1 : a ≤ t := by omega
      have ht2 : t ≤ s.size := by omega
      by_cases hz : n = s.size - a
      · have HE := Lib.hid (HC.out.short HLT.out (by rw [HN.out, HLL.out]; exact hz))
        have hb1 : ((t : Int) == (s.size : Int)) = true := by simp; omega
        go_wp2_with fail
        refine (CE.out _).mono ?_
        rintro e w1 ⟨rfl, hb1⟩
        have HB1 := Lib.hid (HB.out.trans (hb1.mono HB.out.size))
        clear hb1
        obtain rfl : t = s.size := by omega
        go_wp2
        go_ret2
        exact .mk (by rw [HE.out, HLL.out]) HB1.out
      have hnz : lnN s.data.toList a ≠ s.data.toList.length - a := by rw [HN.out, HLL.out]; exact hz
      have HNZ := Lib.hid hnz
      have hlt2 : n < s.size - a := by omega
      have hb1 : ((t : Int) == (s.size : Int)) = false := by simp; omega
      have hb2 : (t == s.size) = false := by simp; omega
      clear hnz
      by_cases h9 : 998 < n
      · have HE := Lib.hid (HC.out.long HLT.out HNZ.out (by rw [HN.out]; exact h9))
        have h9' : (998 : Int) < (t : Int) - (a : Int) := by omega
        clear hz
        go_wp2_with fail
        refine (CE.out _).mono ?_
        rintro e w1 ⟨rfl, hb1⟩
        have HB1 := Lib.hid (HB.out.trans (hb1.mono HB.out.size))
        clear hb1
        go_wp2
        go_ret2
        exact .mk (by rw [HE.out]) HB1.out
      have h9' : ¬ (998 : Int) < (t : Int) - (a : Int) := by omega
      have CB := Lib.hid (rbad_any (s.extract a t) (by omega))
      obtain ⟨b, hb⟩ : ∃ b, badI ((s.data.toList.drop a).take n) = b := ⟨_, rfl⟩
      have hbb := badI_bd ((s.data.toList.drop a).take n)
      rw [hb, List.length_take] at hbb
      have hbn : b ≤ n := by omega
      obtain ⟨hb1', _⟩ := hbb
      have HBI := Lib.hid hb
      clear hb hz
      go_wp2_with fail
      refine (CE.out _).mono ?_
      rintro e w1 ⟨rfl, hb1⟩
      have HB1 := Lib.hid (HB.out.trans (hb1.mono HB.out.size))
      clear hb1
      go_wp2_with fail
      refine (CB.out _).mono ?_
      rintro e w2 ⟨he, hb2⟩
      rw [HTY.out, HBI.out] at he
      subst he
      have HB2 := Lib.hid (HB1.out.trans (hb2.mono HB1.out.size))
      clear hb2
      by_cases hbp : 0 ≤ b
      · have HE := Lib.hid (HC.out.bad HLT.out HNZ.out (by rw [HN.out]; omega) (by rw [HN.out, HBI.out]; exact hbp))
        go_wp2
        go_ret2
        exact .mk (by rw [HE.out, HN.out, HBI.out]) HB2.out
      · have HE := Lib.hid (HC.out.next HLT.out HNZ.out (by rw [HN.out]; omega) (by rw [HN.out, HBI.out]; exact hbp))
        go_wp2
        go_roundw
        case rel => exact ⟨t + 1, by go_num, by have := HE.out; rw [HN.out, ht] at this; exact this, HB2.out⟩
        case measure => simp [RowKit.intOf]; omega
    · have HE := Lib.hid (HC.out.done (by rw [HLL.out]; omega))
      go_wp2
      go_ret2
      exact .mk HE.out HB.out
end Go.Proofs.YteecmcphbehfgaaGreatDoor
