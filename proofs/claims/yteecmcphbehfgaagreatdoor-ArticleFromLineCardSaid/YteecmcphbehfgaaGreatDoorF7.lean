/- The squeezed text and the test of a field, by the program and by the document, over this translation.
   Conditions: texts of at most 1000000 bytes. -/
import Derived.Test.YteecmcphbehfgaaGreatDoorF6
import Derived.Deep.RegionLaw
namespace Go.Proofs.YteecmcphbehfgaaGreatDoor
open Go.RowKit Go.Lib

/-! ### plain -/
theorem bsOf_append (a b : List UInt8) : bsOf a ++ bsOf b = bsOf (a ++ b) := by
  apply ByteArray.ext
  rw [ByteArray.data_append]
  simp [bsOf]
theorem joinW_first {ws : List (List UInt8)} (h : 0 < ws.length) : joinW (ws.take 1) = ws[0] := by
  cases ws with
  | nil => simp at h
  | cons x r => simp [joinW, Lib.join_one]
theorem joinW_next {ws : List (List UInt8)} {k : Nat} (h0 : 0 < k) (h : k < ws.length) : joinW (ws.take (k + 1)) = joinW (ws.take k) ++ [32] ++ ws[k] := by
  cases ws with
  | nil => simp at h
  | cons x r =>
    obtain ⟨m, rfl⟩ : ∃ m, k = m + 1 := ⟨k - 1, by omega⟩
    unfold joinW
    rw [List.take_succ_cons, List.take_succ_cons, Lib.join_cons, Lib.join_cons]
    have hm : m < r.length := by simpa using h
    rw [Lib.joinTail_take_succ [32] r m r[m] (List.getElem?_eq_getElem hm)]
    simp [List.append_assoc]
theorem joinW_take_len {ws : List (List UInt8)} {k N : Nat} (hk : k ≤ ws.length) (hN : lensW ws + ws.length ≤ N) : (joinW (ws.take k)).length ≤ N := by
  have h1 := joinW_len (ws.take k)
  have h2 : lensW (ws.take k) ≤ lensW ws := by
    unfold lensW
    conv => rhs; rw [← List.take_append_drop k ws]
    rw [List.map_append, List.sum_append]
    omega
  rw [List.length_take] at h1
  omega
theorem mem_lens : ∀ {ws : List (List UInt8)} {x : List UInt8}, x ∈ ws → x.length ≤ lensW ws
  | [], _, h => by simp at h
  | y :: r, x, h => by
    have e : lensW (y :: r) = y.length + lensW r := by simp [lensW]
    rcases List.mem_cons.1 h with rfl | h
    · omega
    · have := mem_lens h; omega
theorem words_both (l : List UInt8) : lensW (wordsL l) + (wordsL l).length ≤ l.length + 1 := by
  have := wordsG_both l []
  rw [List.length_nil, Nat.zero_add] at this
  exact this

/-- The first error of a field. -/
def checkI (name body : List UInt8) : Int :=
  if validB name = false then 12 else if 0 ≤ printI body then 6 else if joinW (wordsL body) ≠ body then 3 else if 8192 < body.length then 5 else if (wordsL body).any longB = true then 5 else 0

/-! ### walks -/
set_option maxRecDepth 10000 in
set_option maxHeartbeats 1000000 in
theorem squeeze_any (s : ByteArray) (w : World) (hs : s.size ≤ 1000000) : Calls Tryz.prog 99 #[.string s] w fun e w' => e = .returned (strV (joinW (wordsL s.data.toList))) ∧ Below w.heap.size w w' := by
  have hll : s.data.toList.length = s.size := by simp
  have hwb := words_both s.data.toList
  rw [hll] at hwb
  clear hll
  have C1 := rwords_any s w hs
  unfold WordsPost at C1
  obtain ⟨ws, hws⟩ : ∃ ws, wordsL s.data.toList = ws := ⟨_, rfl⟩
  rw [hws] at C1 hwb ⊢
  clear hws
  have C1 := Lib.hid C1
  unfold strV
  go_enter Tryz.func99, Tryz.ntmps99
  go_wp2_with fail
  refine C1.out.mono ?_
  rintro e w1 ⟨v, rfl, hown, hbl⟩
  have HO := Lib.hid hown
  have HBL := Lib.hid hbl
  obtain ⟨A, cap, rfl⟩ := own_shape hown
  clear hown hbl C1
  go_wp2_with fail
  go_loop [3, 5] (fun o v => ∃ k : Nat, k ≤ ws.length ∧ v = .int .i64 k ∧ o = .string (bsOf (joinW (ws.take k)))) (fun _ v => ws.length - (RowKit.intOf v).toNat)
  case atStart => exact ⟨0, Nat.zero_le _, rfl, rfl⟩
  case round =>
    obtain ⟨k, hk, rfl, rfl⟩ := hrel
    by_cases hlt : k < ws.length
    · obtain ⟨g, cap', he, hB, hg, hc, hcell⟩ := own_cell HO.out (by omega)
      injection he with he1 _ he2
      subst he1; subst he2
      have ck := hcell k (.string (bsOf ws[k])) (by rw [List.getElem?_map, List.getElem?_eq_getElem hlt]; rfl)
      clear hcell
      have z1 : (bsOf (joinW (ws.take k))).size ≤ 1000001 := by rw [bsOf_size]; exact joinW_take_len hk (by omega)
      have z2 : (bsOf ws[k]).size ≤ 1000001 := by
        rw [bsOf_size]
        have h1 : (ws[k]).length ≤ lensW ws := by
          exact mem_lens (List.getElem_mem hlt)
        omega
      by_cases hk0 : k = 0
      · have k0 : decide ((0 : Int) < k) = false := decide_eq_false (by omega)
        have k0' : ¬ (0 : Int) < k := by omega
        have HJ : Hid (joinW (ws.take (k + 1)) = joinW (ws.take k) ++ ws[k]) := Lib.hid (by subst hk0; rw [joinW_first hlt]; rfl)
        have HK := Lib.hid hk0
        clear hk0
        go_wp2
        go_round
        case rel => exact ⟨k + 1, by omega, by go_num, by rw [HJ.out, ← bsOf_append]⟩
        case measure => simp [RowKit.intOf]; omega
      · have k0 : decide ((0 : Int) < k) = true := decide_eq_true (by omega)
        have HJ := Lib.hid (joinW_next (by omega : 0 < k) hlt)
        go_wp2
        go_round
        case rel => exact ⟨k + 1, by omega, by go_num, by rw [HJ.out, ← bsOf_append, ← bsOf_append]; rfl⟩
        case measure => simp [RowKit.intOf]; omega
    · obtain rfl : k = ws.length := by omega
      go_wp2
      go_ret
      exact ⟨rfl, HBL.out⟩

theorem kept_of_below {w w' : World} (h : Below w.heap.size w w') : Kept (fun _ => False) w w' := ⟨h.os, h.tape, h.output, h.size, fun k hk _ => h.block k hk⟩
/-- Below a mark the cells read as they did. -/
theorem bcell {B : Nat} {W w1 : World} (hb : Below B W w1) : (∀ b o, b < B → w1.cell? ⟨b, o, none⟩ = W.cell? ⟨b, o, none⟩) ∧ (∀ b o, b < B → w1.frozen? ⟨b, o, none⟩ = W.frozen? ⟨b, o, none⟩) :=
  ⟨fun b o h => hb.cell (p := ⟨b, o, none⟩) h, fun b o h => hb.frozen (p := ⟨b, o, none⟩) h⟩
theorem cell2 {w : World} {a b : Value} {T : TypeId} : (w.alloc (.cells #[a, b] T)).cell? ⟨w.heap.size, 0, none⟩ = some a ∧ (w.alloc (.cells #[a, b] T)).cell? ⟨w.heap.size, 1, none⟩ = some b := by
  have h := heap_alloc_new w (.cells #[a, b] T)
  exact ⟨by rw [Lib.cell_of_heap h]; rfl, by rw [Lib.cell_of_heap h]; rfl⟩

theorem check_name {n b : List UInt8} (h : validB n = false) : checkI n b = 12 := by unfold checkI; rw [if_pos h]
theorem check_byte {n b : List UInt8} (h : validB n = true) (h1 : 0 ≤ printI b) : checkI n b = 6 := by unfold checkI; rw [if_neg (by simp [h]), if_pos h1]
theorem check_form {n b : List UInt8} (h : validB n = true) (h1 : ¬ 0 ≤ printI b) (h2 : joinW (wordsL b) ≠ b) : checkI n b = 3 := by unfold checkI; rw [if_neg (by simp [h]), if_neg h1, if_pos h2]
theorem check_long {n b : List UInt8} (h : validB n = true) (h1 : ¬ 0 ≤ printI b) (h2 : joinW (wordsL b) = b) (h3 : 8192 < b.length) : checkI n b = 5 := by unfold checkI; rw [if_neg (by simp [h]), if_neg h1, if_neg (by simp [h2]), if_pos h3]
theorem check_word {n b : List UInt8} (h : validB n = true) (h1 : ¬ 0 ≤ printI b) (h2 : joinW (wordsL b) = b) (h3 : ¬ 8192 < b.length) (h4 : (wordsL b).any longB = true) : checkI n b = 5 := by unfold checkI; rw [if_neg (by simp [h]), if_neg h1, if_neg (by simp [h2]), if_neg h3, if_pos h4]
theorem check_ok {n b : List UInt8} (h : validB n = true) (h1 : ¬ 0 ≤ printI b) (h2 : joinW (wordsL b) = b) (h3 : ¬ 8192 < b.length) (h4 : (wordsL b).any longB = false) : checkI n b = 0 := by unfold checkI; rw [if_neg (by simp [h]), if_neg h1, if_neg (by simp [h2]), if_neg h3, if_neg (by simp [h4])]

set_option maxRecDepth 10000 in
set_option maxHeartbeats 2000000 in
theorem check_any (name body : ByteArray) (w : World) (hn : name.size ≤ 1000000) (hb : body.size ≤ 1000000) :
    Calls Tryz.prog 96 #[.agg #[.string name, .string body]] w fun e w' => e = .returned (.int .i64 (checkI name.data.toList body.data.toList)) ∧ Below w.heap.size w w' := by
  have hll : body.data.toList.length = body.size := by simp
  have hJ := joinW_words body.data.toList
  have hwl := words_len body.data.toList
  have C1 := words_any body (w.alloc (.cells #[.string name, .string body] 70)) hb
  unfold WordsPost at C1
  have C1 := Lib.hid C1
  have CV := fun w => Lib.hid (valid_any name w hn)
  have CP := fun w => Lib.hid (printable_any body w hb)
  have HL := Lib.hid hll
  rw [hll] at hJ hwl
  clear hll
  go_enter Tryz.func96, Tryz.ntmps96
  go_wp2_with fail
  refine C1.out.mono ?_
  rintro e w1 ⟨v, rfl, hown, hbl⟩
  have HO := Lib.hid hown
  have HBL := Lib.hid (((Below.refl w.heap.size w).alloc (Nat.le_refl _) (.cells #[.string name, .string body] 70)).trans (hbl.mono (by simp)))
  have c0 : w1.cell? ⟨w.heap.size, 0, none⟩ = some (.string name) := ((bcell hbl).1 _ _ (by simp)).trans cell2.1
  have c1 : w1.cell? ⟨w.heap.size, 1, none⟩ = some (.string body) := ((bcell hbl).1 _ _ (by simp)).trans cell2.2
  have hlt : w.heap.size < w1.heap.size := by have := hbl.size; simp at this; omega
  obtain ⟨A, cap, rfl⟩ := own_shape hown
  clear hown hbl C1
  cases hv : validB name.data.toList
  · have HR := Lib.hid (check_name (b := body.data.toList) hv)
    have HV := Lib.hid hv
    clear hv
    go_wp2_with (go_at_call 119; refine (CV _).out.mono ?_; rintro e w' ⟨rfl, rfl⟩; simp only [HV.out])
    go_ret
    exact ⟨ret_int HR.out.symm, HBL.out⟩
  by_cases hp : 0 ≤ printI body.data.toList
  · have HR := Lib.hid (check_byte hv hp)
    have HV := Lib.hid hv
    clear hv
    have hp' : decide (0 ≤ printI body.data.toList) = true := decide_eq_true hp
    go_wp2_with (first
      | (go_at_call 119; refine (CV _).out.mono ?_; rintro e w' ⟨rfl, rfl⟩; simp only [HV.out])
      | (go_at_call 120; refine (CP _).out.mono ?_; rintro e w' ⟨rfl, rfl⟩))
    go_ret
    exact ⟨ret_int HR.out.symm, HBL.out⟩
  have hp' : decide (0 ≤ printI body.data.toList) = false := decide_eq_false hp
  have HV := Lib.hid hv
  have HP := Lib.hid hp
  clear hv hp
  have CJ := Lib.hid (join_any (own_kept HO.out ((Kept.refl (fun _ => False) w1).drew) (fun _ _ f => f)) (by omega) (by omega))
  go_wp2_with (first
      | (go_at_call 119; refine (CV _).out.mono ?_; rintro e w' ⟨rfl, rfl⟩; simp only [HV.out])
      | (go_at_call 120; refine (CP _).out.mono ?_; rintro e w' ⟨rfl, rfl⟩))
  by_cases hj : joinW (wordsL body.data.toList) = body.data.toList
  · have hbj : strV (joinW (wordsL body.data.toList)) = .string body := by rw [hj]; unfold strV; rw [bsOf_eta]
    rw [hbj] at CJ
    clear hbj
    have HJ2 := Lib.hid hj
    clear hj
    go_region_law (go_simp; go_at_call 121; refine CJ.out.mono ?_; rintro e w2 ⟨rfl, hb2⟩; obtain ⟨q0, q1⟩ : w2.cell? ⟨w.heap.size, 0, none⟩ = some (.string name) ∧ w2.cell? ⟨w.heap.size, 1, none⟩ = some (.string body) := ⟨((bcell hb2).1 _ _ hlt).trans c0, ((bcell hb2).1 _ _ hlt).trans c1⟩)
    all_goals
      have hk2 : Kept (fun _ => False) w1 w2 := ((Kept.refl (fun _ => False) w1).drew).trans (kept_of_below hb2) (fun _ _ f => f)
      have HO2 := Lib.hid (own_kept HO.out hk2 (fun _ _ f => f))
      have HB2 := Lib.hid (HBL.out.trans (hk2.below (B := w.heap.size) (fun _ _ _ f => f) (Nat.le_of_lt hlt)))
      clear hb2 hk2
      have CS := Lib.hid (some_long HO2.out (by omega))
      by_cases h8 : 8192 < body.size
      · have HR := Lib.hid (check_long HV.out (by have := HP.out; omega) HJ2.out (by rw [HL.out]; exact h8))
        go_wp2
        go_ret
        exact ⟨ret_int HR.out.symm, HB2.out⟩
      · cases ha : (wordsL body.data.toList).any longB
        · have HR := Lib.hid (check_ok HV.out (by have := HP.out; omega) HJ2.out (by rw [HL.out]; exact h8) ha)
          rw [ha] at CS
          clear ha
          go_wp2_with (go_at_call 122; refine CS.out.mono ?_; rintro e w' ⟨rfl, rfl⟩)
          go_ret
          exact ⟨ret_int HR.out.symm, HB2.out⟩
        · have HR := Lib.hid (check_word HV.out (by have := HP.out; omega) HJ2.out (by rw [HL.out]; exact h8) ha)
          rw [ha] at CS
          clear ha
          go_wp2_with (go_at_call 122; refine CS.out.mono ?_; rintro e w' ⟨rfl, rfl⟩)
          go_ret
          exact ⟨ret_int HR.out.symm, HB2.out⟩
  · have HR := Lib.hid (check_form HV.out (by have := HP.out; omega) hj)
    have hb1 : ((bsOf (joinW (wordsL body.data.toList))).toList == body.toList) = false := beq_eq_false_iff_ne.2 (by rw [ByteArray.toList_eq, ByteArray.toList_eq, bsOf_data]; exact hj)
    unfold strV at CJ
    clear hj
    go_region_law (go_simp; go_at_call 121; refine CJ.out.mono ?_; rintro e w2 ⟨rfl, hb2⟩; obtain ⟨q0, q1⟩ : w2.cell? ⟨w.heap.size, 0, none⟩ = some (.string name) ∧ w2.cell? ⟨w.heap.size, 1, none⟩ = some (.string body) := ⟨((bcell hb2).1 _ _ hlt).trans c0, ((bcell hb2).1 _ _ hlt).trans c1⟩)
    all_goals
      have hk2 : Kept (fun _ => False) w1 w2 := ((Kept.refl (fun _ => False) w1).drew).trans (kept_of_below hb2) (fun _ _ f => f)
      have HB2 := Lib.hid (HBL.out.trans (hk2.below (B := w.heap.size) (fun _ _ _ f => f) (Nat.le_of_lt hlt)))
      clear hb2 hk2
      go_wp2
      go_ret
      exact ⟨ret_int HR.out.symm, HB2.out⟩
end Go.Proofs.YteecmcphbehfgaaGreatDoor
