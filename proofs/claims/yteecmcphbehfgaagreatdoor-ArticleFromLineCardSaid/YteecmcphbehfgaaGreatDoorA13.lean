/- article, the document's side: the first byte of a line that is not permitted. Conditions: texts of at most 1000000 bytes. -/
import Derived.Test.YteecmcphbehfgaaGreatDoorA12
namespace Go.Proofs.YteecmcphbehfgaaGreatDoor
open Go.RowKit Go.Lib

theorem find_take {l : List (Nat × Nat)} {p : Nat → Bool} {k : Nat} (h : k < l.length) (h0 : ∀ y ∈ l.take k, p y.2 = false) (hx : p (l[k]).2 = true) : (l.find? (fun x => p x.2)).map (·.1) = some (l[k]).1 := by
  have e : l = l.take k ++ (l[k] :: l.drop (k + 1)) := by rw [← List.drop_eq_getElem_cons h, List.take_append_drop]
  have hf : (l.take k ++ (l[k] :: l.drop (k + 1))).find? (fun x => p x.2) = some l[k] := by
    rw [List.find?_append, List.find?_eq_none.2 (fun y hy => by simp [h0 y hy]), List.find?_cons_of_pos (p := fun x : Nat × Nat => p x.2) hx]
    rfl
  rw [← e] at hf
  rw [hf]
  rfl
set_option maxRecDepth 100000 in
set_option maxHeartbeats 4000000 in
theorem rbad_any (s : ByteArray) (hs : s.size ≤ 1000000) (w : World) : Calls Tryz.prog 36 #[.string s] w (BadPost s.data.toList w) := by
  have CA := Lib.hid (rall_any s hs)
  have hlen := runesL_len s.data.toList
  rw [show s.data.toList.length = s.size by simp] at hlen
  go_enter Tryz.func36, Tryz.ntmps36
  go_wp2_with fail
  refine (CA.out _).mono ?_
  rintro e w1 ⟨v1, v2, at', c, rfl, ho1, ho2, hec, hb⟩
  obtain ⟨N, hN⟩ : ∃ N, (runesL s.data.toList).length = N := ⟨_, rfl⟩
  have HN := Lib.hid hN
  rw [hN] at ho1 ho2 hlen
  obtain ⟨A1, cap1, rfl⟩ := own_shape ho1
  obtain ⟨A2, cap2, rfl⟩ := own_shape ho2
  have HO1 := Lib.hid ho1
  have HO2 := Lib.hid ho2
  have HEC := Lib.hid hec
  have HB := Lib.hid hb
  clear hN ho1 ho2 hec hb
  go_wp2
  go_loopw [7] (fun v wr => ∃ k : Nat, k ≤ N ∧ v = .int .i64 k ∧ (∀ y ∈ (runesL s.data.toList).take k, hidN y.2 = false) ∧ Below w1.heap.size w1 wr) (fun v _ => N - (RowKit.intOf v).toNat)
  case atStart => exact ⟨0, Nat.zero_le _, rfl, fun y hy => (by simp at hy), Below.refl _ _⟩
  case round =>
    obtain ⟨k, hk, rfl, h0, hbk⟩ := hrel
    have H0 := Lib.hid h0
    have HK := Lib.hid hbk
    have HBK := Lib.hid (HB.out.trans (hbk.mono HB.out.size))
    clear h0 hbk
    by_cases hlt : k < N
    · have hkl : k < (runesL s.data.toList).length := by rw [HN.out]; exact hlt
      obtain ⟨gb1, cp1, he1, _, hgb1, _, hc1⟩ := own_cell HO1.out (by omega)
      obtain ⟨gb2, cp2, he2, _, hgb2, _, hc2⟩ := own_cell HO2.out (by omega)
      injection he1 with he1 _ he1'
      injection he2 with he2 _ he2'
      subst he1; subst he1'; subst he2; subst he2'
      obtain ⟨⟨xo, xr⟩, hx⟩ : ∃ q, (runesL s.data.toList)[k] = q := ⟨_, rfl⟩
      have hmem : (xo, xr) ∈ runesL s.data.toList := by rw [← hx]; exact List.getElem_mem hkl
      have hok := runesL_ok hmem
      have q1 : wr.cell? ⟨gb1, k, none⟩ = some (.int .i64 (xr : Nat)) := by
        rw [HK.out.cell (p := ⟨gb1, k, none⟩) hgb1]
        exact hc1 k _ (by rw [List.getElem?_map, List.getElem?_eq_getElem hkl, hx]; rfl)
      have q2 : wr.cell? ⟨gb2, k, none⟩ = some (.int .i64 (xo : Nat)) := by
        rw [HK.out.cell (p := ⟨gb2, k, none⟩) hgb2]
        exact hc2 k _ (by rw [List.getElem?_map, List.getElem?_eq_getElem hkl, hx]; rfl)
      have CC := Lib.hid (rcontrol_any xr hok.1)
      have HX := Lib.hid hx
      have HKL := Lib.hid hkl
      clear hc1 hc2 hx hmem hok
      have hnext : Hid (hidN xr = false → ∀ y ∈ (runesL s.data.toList).take (k + 1), hidN y.2 = false) := Lib.hid fun h y hy => by
        rw [List.take_succ_eq_append_getElem hkl, HX.out] at hy
        rcases List.mem_append.1 hy with hy | hy
        · exact H0.out y hy
        · rw [List.mem_singleton.1 hy]; exact h
      have hfnd : Hid (hidN xr = true → badI s.data.toList = (xo : Nat)) := Lib.hid fun h => by
        apply badI_hid
        rw [hidL_find]
        have := find_take (p := hidN) hkl H0.out (by rw [HX.out]; exact h)
        rw [HX.out] at this
        exact this
      have HIDE : Hid (∀ b : Bool, (xr ≠ 9 → ctlN xr = b) → (xr = 9 → b = false) → hidN xr = b) := Lib.hid fun b h h' => by
        unfold hidN
        by_cases h9 : xr = 9
        · rw [h' h9, h9]; rfl
        · rw [h h9, decide_eq_true h9, Bool.and_true]
      by_cases h9 : xr = 9
      · have HF := Lib.hid (hnext.out (HIDE.out false (fun f => absurd h9 f) (fun _ => rfl)))
        have h9b : ((xr : Int) != 9) = false := by simp; omega
        cases hc : ctlN xr with
        | true =>
          rw [hc] at CC
          clear hc h9
          go_wp2_with fail
          refine (CC.out _).mono ?_
          rintro e w2 ⟨rfl, hb2⟩
          have HK2 := Lib.hid (HK.out.trans (hb2.mono HK.out.size))
          have q1' := (hb2.cell (p := ⟨gb1, k, none⟩) (by have := HK.out.size; show gb1 < wr.heap.size; omega)).trans q1
          clear hb2 q1
          go_wp2
          go_roundw
          case rel => exact ⟨k + 1, by omega, by go_num, HF.out, HK2.out⟩
          case measure => simp [RowKit.intOf]; omega
        | false =>
          rw [hc] at CC
          clear hc h9
          go_wp2_with fail
          refine (CC.out _).mono ?_
          rintro e w2 ⟨rfl, hb2⟩
          have HK2 := Lib.hid (HK.out.trans (hb2.mono HK.out.size))
          clear hb2
          go_wp2
          go_roundw
          case rel => exact ⟨k + 1, by omega, by go_num, HF.out, HK2.out⟩
          case measure => simp [RowKit.intOf]; omega
      · have h9b : ((xr : Int) != 9) = true := by simp; omega
        cases hc : ctlN xr with
        | true =>
          have HF := Lib.hid (hfnd.out (HIDE.out true (fun _ => hc) (fun f => absurd f h9)))
          rw [hc] at CC
          clear hc h9
          go_wp2_with fail
          refine (CC.out _).mono ?_
          rintro e w2 ⟨rfl, hb2⟩
          have HK2 := Lib.hid (HBK.out.trans (hb2.mono HBK.out.size))
          have q1' := (hb2.cell (p := ⟨gb1, k, none⟩) (by have := HK.out.size; show gb1 < wr.heap.size; omega)).trans q1
          have q2' := (hb2.cell (p := ⟨gb2, k, none⟩) (by have := HK.out.size; show gb2 < wr.heap.size; omega)).trans q2
          clear hb2 q1 q2
          go_wp2
          go_ret
          exact ⟨ret_int HF.out.symm, HK2.out⟩
        | false =>
          have HF := Lib.hid (hnext.out (HIDE.out false (fun _ => hc) (fun f => absurd f h9)))
          rw [hc] at CC
          clear hc h9
          go_wp2_with fail
          refine (CC.out _).mono ?_
          rintro e w2 ⟨rfl, hb2⟩
          have HK2 := Lib.hid (HK.out.trans (hb2.mono HK.out.size))
          clear hb2
          go_wp2
          go_roundw
          case rel => exact ⟨k + 1, by omega, by go_num, HF.out, HK2.out⟩
          case measure => simp [RowKit.intOf]; omega
    · obtain rfl : k = N := by omega
      have HNO : Hid (hidL hidN s.data.toList = none) := Lib.hid (hidL_none (fun y hy => H0.out y (by rw [List.take_of_length_le (by rw [HN.out]; exact Nat.le_refl _)]; exact hy)))
      cases hd : errL s.data.toList with
      | none =>
        have h2 := HEC.out
        rw [hd] at h2
        have HF := Lib.hid (badI_none HNO.out hd)
        clear hd
        subst h2
        go_wp2
        go_ret
        exact ⟨ret_int HF.out.symm, HBK.out⟩
      | some a =>
        have h2 := HEC.out
        rw [hd] at h2
        obtain ⟨h2, rfl⟩ := h2
        have HF := Lib.hid (badI_err HNO.out hd)
        have hcb : (c != 0) = true := by simp [h2]
        clear hd h2
        go_wp2
        go_ret
        exact ⟨ret_int HF.out.symm, HBK.out⟩
end Go.Proofs.YteecmcphbehfgaaGreatDoor
