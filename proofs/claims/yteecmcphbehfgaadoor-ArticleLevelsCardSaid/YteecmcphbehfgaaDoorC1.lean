/- article, the document's side: the level of a line. Conditions: texts of at most 1000000 bytes. -/
import Derived.Test.YteecmcphbehfgaaDoorB8
import Derived.Test.YteecmcphbehfgaaDoorB9
namespace Go.Proofs.YteecmcphbehfgaaDoor
open Go.RowKit Go.Lib

theorem lvN_span (l : List UInt8) : spanL mkB l 0 = lvN l := by unfold spanL lvN; simp
theorem lv_drop (l : List UInt8) : l.dropWhile mkB = l.drop (lvN l) := by
  have := drop_span mkB l 0
  rw [lvN_span] at this
  rw [this]
  rfl
theorem lvR_zero {l : List UInt8} (h : lvN l = 0) : lvR l = l := by
  have h' : (l.takeWhile mkB).length = 0 := h
  unfold lvR
  rw [if_neg (by omega), lv_drop, h]
  rfl
theorem lvR_end {l : List UInt8} (h : lvN l = l.length) : lvR l = [] := by
  unfold lvR
  rw [lv_drop, h, List.drop_length]
  split <;> rfl
theorem lvR_space {l : List UInt8} {n : Nat} (hn : lvN l = n) (h0 : 0 < n) (h : n < l.length) (hc : l[n] = 32) : lvR l = l.drop (n + 1) := by
  have h' : 0 < (l.takeWhile mkB).length := by show 0 < lvN l; omega
  unfold lvR
  rw [if_pos h', lv_drop, hn, List.drop_eq_getElem_cons h]
  simp only
  rw [if_pos hc]
theorem lvR_other {l : List UInt8} {n : Nat} (hn : lvN l = n) (h0 : 0 < n) (h : n < l.length) (hc : ¬ l[n] = 32) : lvR l = l.drop n := by
  have h' : 0 < (l.takeWhile mkB).length := by show 0 < lvN l; omega
  unfold lvR
  rw [if_pos h', lv_drop, hn, List.drop_eq_getElem_cons h]
  simp only
  rw [if_neg hc]
theorem ext_strV (s : ByteArray) (n : Nat) : Value.string (s.extract n s.size) = strV (s.data.toList.drop n) := by
  unfold strV
  rw [← ext_drop, bsOf_eta]
def RLevPost (l : List UInt8) (w : World) (e : Ending) (w' : World) : Prop := e = .returned (.tuple #[.int .i64 (lvN l : Nat), strV (lvR l)]) ∧ Below w.heap.size w w'
theorem RLevPost.mk {l : List UInt8} {w w' : World} {n : Nat} {R : ByteArray} (h1 : lvN l = n) (h2 : Value.string R = strV (lvR l)) (hb : Below w.heap.size w w') : RLevPost l w (.returned (.tuple #[.int .i64 n, .string R])) w' := ⟨by rw [h1, h2], hb⟩

set_option maxRecDepth 100000 in
set_option maxHeartbeats 4000000 in
theorem rlevel_any (s : ByteArray) (hs : s.size ≤ 1000000) (w : World) : Calls Tryd.prog 6 #[.string s] w (RLevPost s.data.toList w) := by
  have hll : s.data.toList.length = s.size := by simp
  have HLL := Lib.hid hll
  have HSP := Lib.hid (lvN_span s.data.toList)
  clear hll
  go_enter Tryd.func6, Tryd.ntmps6
  go_wp2
  go_loopw [4] (fun v wr => ∃ k : Nat, v = .int .i64 k ∧ k ≤ s.size ∧ spanL mkB s.data.toList 0 = spanL mkB s.data.toList k ∧ Below w.heap.size w wr) (fun v _ => s.size - (RowKit.intOf v).toNat)
  case atStart => exact ⟨0, rfl, Nat.zero_le _, rfl, Below.refl _ _⟩
  case round =>
    obtain ⟨k, rfl, hk, hsp, hb⟩ := hrel
    have HS := Lib.hid hsp
    have HB := Lib.hid hb
    clear hsp hb
    by_cases hlt : k < s.size
    · have hlt' : k < s.data.toList.length := by rw [HLL.out]; exact hlt
      have HCE : Hid (s.data.toList[k] = s[k]) := Lib.hid rfl
      by_cases hc : s[k].toNat = 62
      · have HST : Hid (spanL mkB s.data.toList k = spanL mkB s.data.toList (k + 1)) := Lib.hid (spanL_step hlt' (by rw [HCE.out]; unfold mkB; rw [beq_iff_eq]; exact UInt8.toNat_inj.1 hc))
        have hcb : ((s[k].toNat : Int) == 62) = true := by simp; omega
        clear hc
        go_wp2
        go_roundw
        case rel => exact ⟨k + 1, by go_num, by omega, by rw [HS.out, HST.out], HB.out⟩
        case measure => simp [RowKit.intOf]; omega
      · have HN : Hid (lvN s.data.toList = k) := Lib.hid (by rw [← HSP.out, HS.out]; exact spanL_stop hlt' (by rw [HCE.out]; unfold mkB; rw [← Bool.not_eq_true, beq_iff_eq]; intro f; exact hc (by rw [f]; rfl)))
        have hcb : ((s[k].toNat : Int) == 62) = false := by simp; omega
        clear hc
        obtain ⟨R, hR⟩ : ∃ R, s.extract k s.size = R := ⟨_, rfl⟩
        have hRs : R.size = s.size - k := by rw [← hR]; simp
        have hRd : R.data.toList = s.data.toList.drop k := by rw [← hR]; exact ext_drop s k
        have HRV : Hid (Value.string R = strV (s.data.toList.drop k)) := Lib.hid (by rw [← hR]; exact ext_strV s k)
        have HRD := Lib.hid hRd
        obtain ⟨n1, n2, n3⟩ := ne_facts (s := R) (by omega)
        by_cases h0 : 0 < k
        · by_cases h32 : s[k].toNat = 32
          · have hR0 : R[0].toNat = 32 := by
              have e : R.data.toList[0]? = s.data.toList[k]? := by rw [HRD.out, List.getElem?_drop]; rfl
              rw [List.getElem?_eq_getElem hlt', List.getElem?_eq_getElem (by simp; omega)] at e
              have e' := Option.some.inj e
              have e2 : R[0] = s[k] := e'
              rw [e2]; exact h32
            have hb32 : ((R[0].toNat : Int) == 32) = true := by simp; omega
            have HV : Hid (Value.string (R.extract 1 (s.size - k)) = strV (lvR s.data.toList)) := Lib.hid (by
              rw [← hRs]
              rw [lvR_space HN.out h0 hlt' (by rw [HCE.out]; exact UInt8.toNat_inj.1 h32), ext_strV, HRD.out, List.drop_drop])
            clear hR0 h32 hRd
            go_wp2
            go_ret2
            exact .mk HN.out HV.out HB.out
          · have hR0 : R[0].toNat ≠ 32 := by
              have e : R.data.toList[0]? = s.data.toList[k]? := by rw [HRD.out, List.getElem?_drop]; rfl
              rw [List.getElem?_eq_getElem hlt', List.getElem?_eq_getElem (by simp; omega)] at e
              have e' := Option.some.inj e
              have e2 : R[0] = s[k] := e'
              rw [e2]; exact h32
            have hb32 : ((R[0].toNat : Int) == 32) = false := by simp; omega
            have HV : Hid (Value.string R = strV (lvR s.data.toList)) := Lib.hid (by
              rw [lvR_other HN.out h0 hlt' (by rw [HCE.out]; intro f; exact h32 (by rw [f]; rfl)), HRV.out])
            clear hRd
            go_wp2
            go_ret2
            exact .mk HN.out HV.out HB.out
        · obtain rfl : k = 0 := by omega
          have HV : Hid (Value.string R = strV (lvR s.data.toList)) := Lib.hid (by rw [lvR_zero HN.out, HRV.out]; rfl)
          clear hRd
          go_wp2
          go_ret2
          exact .mk HN.out HV.out HB.out
    · obtain rfl : k = s.size := by omega
      have HN : Hid (lvN s.data.toList = s.size) := Lib.hid (by rw [← HSP.out, HS.out]; exact spanL_end (by rw [HLL.out]; exact Nat.le_refl _))
      obtain ⟨R, hR⟩ : ∃ R, s.extract s.size s.size = R := ⟨_, rfl⟩
      have hRs : R.size = 0 := by rw [← hR]; simp
      obtain rfl : R = ⟨#[]⟩ := by
        apply ByteArray.ext
        exact Array.eq_empty_of_size_eq_zero hRs
      have HV : Hid (Value.string (⟨#[]⟩ : ByteArray) = strV (lvR s.data.toList)) := Lib.hid (by rw [lvR_end (by rw [HN.out, HLL.out])]; rfl)
      clear hRs
      by_cases h0 : 0 < s.size
      · go_wp2
        go_ret2
        exact .mk HN.out HV.out HB.out
      · go_wp2
        go_ret2
        exact .mk HN.out HV.out HB.out
end Go.Proofs.YteecmcphbehfgaaDoor
