/- The test of a field by the document over this translation.
   Conditions: texts of at most 1000000 bytes. -/
import Derived.Test.YteecmcphbehfgaaGreatDoorF7
namespace Go.Proofs.YteecmcphbehfgaaGreatDoor
open Go.RowKit Go.Lib

set_option maxRecDepth 10000 in
set_option maxHeartbeats 2000000 in
theorem rcheck_any (name body : ByteArray) (w : World) (hn : name.size ≤ 1000000) (hb : body.size ≤ 1000000) :
    Calls Tryz.prog 72 #[.agg #[.string name, .string body]] w fun e w' => e = .returned (.int .i64 (checkI name.data.toList body.data.toList)) ∧ Below w.heap.size w w' := by
  have hll : body.data.toList.length = body.size := by simp
  have hJ := joinW_words body.data.toList
  have hwl := words_len body.data.toList
  have CV := fun w => Lib.hid (rvalid_any name w hn)
  have CP := fun w => Lib.hid (rprintable_any body w hb)
  have CW : Hid (∀ w, Calls Tryz.prog 100 #[.string body] w (WordsPost body.data.toList w)) := Lib.hid fun w => rwords_any body w hb
  have CQ : Hid (∀ w, Calls Tryz.prog 99 #[.string body] w fun e w' => e = .returned (strV (joinW (wordsL body.data.toList))) ∧ Below w.heap.size w w') := Lib.hid fun w => squeeze_any body w hb
  have HL := Lib.hid hll
  rw [hll] at hJ hwl
  clear hll
  have HBA := Lib.hid (fun o => (Below.refl w.heap.size w).alloc (Nat.le_refl _) o)
  go_enter Tryz.func72, Tryz.ntmps72
  cases hv : validB name.data.toList
  · have HR := Lib.hid (check_name (b := body.data.toList) hv)
    have HV := Lib.hid hv
    clear hv
    go_wp2_with (go_at_call 69; refine (CV _).out.mono ?_; rintro e w' ⟨rfl, rfl⟩; simp only [HV.out])
    go_ret
    exact ⟨ret_int HR.out.symm, HBA.out _⟩
  by_cases hp : 0 ≤ printI body.data.toList
  · have HR := Lib.hid (check_byte hv hp)
    have HV := Lib.hid hv
    clear hv
    have hp' : decide (0 ≤ printI body.data.toList) = true := decide_eq_true hp
    go_wp2_with (first
      | (go_at_call 69; refine (CV _).out.mono ?_; rintro e w' ⟨rfl, rfl⟩; simp only [HV.out])
      | (go_at_call 98; refine (CP _).out.mono ?_; rintro e w' ⟨rfl, rfl⟩))
    go_ret
    exact ⟨ret_int HR.out.symm, HBA.out _⟩
  have hp' : decide (0 ≤ printI body.data.toList) = false := decide_eq_false hp
  have HV := Lib.hid hv
  have HP := Lib.hid hp
  clear hv hp
  go_wp2_with (first
      | (go_at_call 69; refine (CV _).out.mono ?_; rintro e w' ⟨rfl, rfl⟩; simp only [HV.out])
      | (go_at_call 98; refine (CP _).out.mono ?_; rintro e w' ⟨rfl, rfl⟩))
  by_cases hj : joinW (wordsL body.data.toList) = body.data.toList
  · have hbj : strV (joinW (wordsL body.data.toList)) = .string body := by rw [hj]; unfold strV; rw [bsOf_eta]
    rw [hbj] at CQ
    clear hbj
    have HJ2 := Lib.hid hj
    clear hj
    go_region_law (go_simp; go_at_call 99; refine (CQ.out _).mono ?_; rintro e w2 ⟨rfl, hb2⟩; obtain ⟨q0, q1⟩ : w2.cell? ⟨w.heap.size, 0, none⟩ = some (.string name) ∧ w2.cell? ⟨w.heap.size, 1, none⟩ = some (.string body) := ⟨((bcell hb2).1 _ _ (by simp)).trans cell2.1, ((bcell hb2).1 _ _ (by simp)).trans cell2.2⟩)
    all_goals
      have HB2 := Lib.hid ((HBA.out (.cells #[.string name, .string body] 80)).drew.trans (hb2.mono (by simp)))
      clear hb2
      by_cases h8 : 8192 < body.size
      · have HR := Lib.hid (check_long HV.out (by have := HP.out; omega) HJ2.out (by rw [HL.out]; exact h8))
        go_wp2
        go_ret
        exact ⟨ret_int HR.out.symm, HB2.out⟩
      · go_wp2_with fail
        refine (CW.out _).mono ?_
        rintro e w3 ⟨v, rfl, hown, hb3⟩
        have HO := Lib.hid hown
        obtain ⟨A, cap, rfl⟩ := own_shape hown
        have HB3 := Lib.hid (HB2.out.trans (hb3.mono HB2.out.size))
        clear hown hb3
        go_wp2_with fail
        go_loop [4] (fun v => ∃ k : Nat, k ≤ (wordsL body.data.toList).length ∧ v = .int .i64 k ∧ Hid (∀ j (h : j < (wordsL body.data.toList).length), j < k → longB (wordsL body.data.toList)[j] = false)) (fun v => (wordsL body.data.toList).length - (RowKit.intOf v).toNat)
        case atStart => exact ⟨0, Nat.zero_le _, rfl, Lib.hid fun j _ h => by omega⟩
        case round =>
          obtain ⟨k, hk, rfl, HN⟩ := hrel
          by_cases hlt : k < (wordsL body.data.toList).length
          · obtain ⟨g, cap', he, hB, hg, hc, hcell⟩ := own_cell HO.out (by omega)
            injection he with he1 _ he2
            subst he1; subst he2
            have ck := hcell k (.string (bsOf (wordsL body.data.toList)[k])) (by rw [List.getElem?_map, List.getElem?_eq_getElem hlt]; rfl)
            have hz := bsOf_size (wordsL body.data.toList)[k]
            have HZ := Lib.hid hz
            clear hcell hz
            cases hb : longB (wordsL body.data.toList)[k]
            · have hd : decide ((900 : Int) < (bsOf (wordsL body.data.toList)[k]).size) = false := by
                unfold longB at hb
                rw [HZ.out]
                exact decide_eq_false (by have := of_decide_eq_false hb; omega)
              have HB := Lib.hid hb
              clear hb
              go_wp2
              go_round
              case rel => exact ⟨k + 1, by omega, by go_num, Lib.hid fun j hj hjk => by
                  by_cases e : j = k
                  · subst e; exact HB.out
                  · exact HN.out j hj (by omega)⟩
              case measure => simp [RowKit.intOf]; omega
            · have hd : decide ((900 : Int) < (bsOf (wordsL body.data.toList)[k]).size) = true := by
                unfold longB at hb
                rw [HZ.out]
                exact decide_eq_true (by have := of_decide_eq_true hb; omega)
              have HR := Lib.hid (check_word HV.out (by have := HP.out; omega) HJ2.out (by rw [HL.out]; exact h8) (List.any_eq_true.2 ⟨_, List.getElem_mem hlt, hb⟩))
              clear hb
              go_wp2
              go_ret
              exact ⟨ret_int HR.out.symm, HB3.out⟩
          · obtain rfl : k = (wordsL body.data.toList).length := by omega
            have ha : (wordsL body.data.toList).any longB = false := List.any_eq_false.2 fun x hx => by
              obtain ⟨j, hj, rfl⟩ := List.getElem_of_mem hx
              rw [HN.out j hj hj]; decide
            have HR := Lib.hid (check_ok HV.out (by have := HP.out; omega) HJ2.out (by rw [HL.out]; exact h8) ha)
            clear ha
            go_wp2
            go_ret
            exact ⟨ret_int HR.out.symm, HB3.out⟩
  · have HR := Lib.hid (check_form HV.out (by have := HP.out; omega) hj)
    have hb1 : ((bsOf (joinW (wordsL body.data.toList))).toList == body.toList) = false := beq_eq_false_iff_ne.2 (by rw [ByteArray.toList_eq, ByteArray.toList_eq, bsOf_data]; exact hj)
    unfold strV at CQ
    clear hj
    go_region_law (go_simp; go_at_call 99; refine (CQ.out _).mono ?_; rintro e w2 ⟨rfl, hb2⟩; obtain ⟨q0, q1⟩ : w2.cell? ⟨w.heap.size, 0, none⟩ = some (.string name) ∧ w2.cell? ⟨w.heap.size, 1, none⟩ = some (.string body) := ⟨((bcell hb2).1 _ _ (by simp)).trans cell2.1, ((bcell hb2).1 _ _ (by simp)).trans cell2.2⟩)
    all_goals
      have HB2 := Lib.hid ((HBA.out (.cells #[.string name, .string body] 80)).drew.trans (hb2.mono (by simp)))
      clear hb2
      go_wp2
      go_ret
      exact ⟨ret_int HR.out.symm, HB2.out⟩
end Go.Proofs.YteecmcphbehfgaaGreatDoor
