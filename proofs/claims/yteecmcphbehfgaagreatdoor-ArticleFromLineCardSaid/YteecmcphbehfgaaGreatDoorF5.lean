/- The words by the document, the joined words, the test of a field over this translation.
   Conditions: texts of at most 1000000 bytes. -/
import Derived.Test.YteecmcphbehfgaaGreatDoorF4
import Derived.Test.YteecmcphbehfgaaGreatDoorShelf
namespace Go.Proofs.YteecmcphbehfgaaGreatDoor
open Go.RowKit Go.Lib

/-! ### plain: the document's loop over a text -/
theorem drop_cons {l : List UInt8} {k : Nat} (h : k < l.length) : l.drop k = l[k] :: l.drop (k + 1) := List.drop_eq_getElem_cons h
theorem g_vis {l : List UInt8} {k f : Nat} (h : k < l.length) (hf : f ≤ k) (hb : blkB l[k] = false) : wordsG (l.drop k) ((l.drop f).take (k - f)) = wordsG (l.drop (k + 1)) ((l.drop f).take (k + 1 - f)) := by
  rw [drop_cons h]
  have e : (l.drop f).take (k + 1 - f) = (l.drop f).take (k - f) ++ [l[k]] := by
    rw [show k + 1 - f = (k - f) + 1 by omega, List.take_add_one, List.getElem?_drop, show f + (k - f) = k by omega, List.getElem?_eq_getElem h]
    rfl
  rw [e]
  simp [wordsG, hb]
theorem g_vis0 {l : List UInt8} {k : Nat} (h : k < l.length) (hb : blkB l[k] = false) : wordsG (l.drop k) [] = wordsG (l.drop (k + 1)) ((l.drop k).take (k + 1 - k)) := by
  have := g_vis h (Nat.le_refl k) hb
  rwa [Nat.sub_self, List.take_zero] at this
theorem g_blk0 {l : List UInt8} {k : Nat} (h : l.length ≤ k ∨ ∃ h : k < l.length, blkB l[k] = true) : wordsG (l.drop k) [] = wordsG (l.drop (k + 1)) [] := by
  rcases h with h | ⟨h, hb⟩
  · rw [List.drop_eq_nil_of_le h, List.drop_eq_nil_of_le (by omega)]
  · rw [drop_cons h]; simp [wordsG, hb]
theorem g_flush {l : List UInt8} {k f : Nat} (hf : f < k) (hk : k ≤ l.length) (h : l.length ≤ k ∨ ∃ h : k < l.length, blkB l[k] = true) :
    wordsG (l.drop k) ((l.drop f).take (k - f)) = ((l.drop f).take (k - f)) :: wordsG (l.drop (k + 1)) [] := by
  have hne : (l.drop f).take (k - f) ≠ [] := by
    intro e
    have := congrArg List.length e
    simp at this
    omega
  rcases h with h | ⟨h, hb⟩
  · rw [List.drop_eq_nil_of_le h, List.drop_eq_nil_of_le (show l.length ≤ k + 1 by omega)]; simp [wordsG, hne]
  · rw [drop_cons h]; simp [wordsG, hb, hne]

/-- What holds at the head of a round of bulletinref01.Words. -/
def RWRel (l : List UInt8) (w : World) (v3 v4 v5 : Value) (wr : World) : Prop :=
  ∃ (k : Nat) (ws : List (List UInt8)), k ≤ l.length + 1 ∧ v5 = .int .i64 k ∧ wr.ownsRow w.heap.size 9 1 v3 ws.length (ws.map strV) ∧ Below w.heap.size w wr ∧ ws.length ≤ l.length + 1 ∧
    ((v4 = .int .i64 (-1) ∧ ws ++ wordsG (l.drop k) [] = wordsL l) ∨ ∃ f : Nat, v4 = .int .i64 f ∧ f < k ∧ k ≤ l.length ∧ ws ++ wordsG (l.drop k) ((l.drop f).take (k - f)) = wordsL l)
theorem rw_count {l cur : List UInt8} {k : Nat} {ws : List (List UInt8)} (h : ws ++ wordsG (l.drop k) cur = wordsL l) : ws.length ≤ l.length + 1 := by
  have h1 := words_count l []
  have h2 : (wordsL l).length = (wordsG l []).length := rfl
  rw [← h, List.length_append] at h2
  omega

set_option maxRecDepth 10000 in
set_option maxHeartbeats 2000000 in
theorem rwords_any (s : ByteArray) (w : World) (hs : s.size ≤ 1000000) : Calls Tryz.prog 100 #[.string s] w (WordsPost s.data.toList w) := by
  have hll : s.data.toList.length = s.size := by simp
  have HL := Lib.hid hll
  have hL1 : s.data.toList.length ≤ s.size := by omega
  have hL2 : s.size ≤ s.data.toList.length := by omega
  clear hll
  obtain ⟨i0, hi, hz0, hz1, hz2⟩ := info_parts Tryz.str_info
  have HI := Lib.hid hi
  have HZ0 := Lib.hid hz0
  have HZ1 := Lib.hid hz1
  have HZ2 := Lib.hid hz2
  clear hi hz0 hz1 hz2
  go_enter Tryz.func100, Tryz.ntmps100
  go_wp2
  go_loopw [3, 4, 5] (fun a b c wr => RWRel s.data.toList w a b c wr) (fun _ _ c _ => s.size + 1 - (RowKit.intOf c).toNat)
  case atStart => exact ⟨0, [], Nat.zero_le _, rfl, ⟨rfl, .inl ⟨rfl, rfl⟩⟩, Below.refl _ _, Nat.zero_le _, .inl ⟨rfl, rfl⟩⟩
  case round =>
    obtain ⟨k, ws, hk, rfl, hown, hbl, hcnt, hcase⟩ := hrel
    rw [HL.out] at hk hcnt
    have HO := Lib.hid hown
    have HBL := Lib.hid hbl
    have hsz := hbl.size
    obtain ⟨A3, cap3, rfl⟩ := own_shape hown
    clear hown hbl
    by_cases hle : k ≤ s.size
    · by_cases hlt : k < s.size
      · have hk' : k < s.data.toList.length := by rw [HL.out]; exact hlt
        cases hb : blkB s[k]
        · have HB : Hid (blkB s.data.toList[k] = false) := Lib.hid hb
          have HB' := Lib.hid hb
          clear hb
          rcases hcase with ⟨rfl, hw⟩ | ⟨f, rfl, hf, _, hw⟩
          · have HW := Lib.hid hw
            clear hw
            go_wp2_with (go_at_call 68; refine (rblank_any _ wr).mono ?_; rintro e w' ⟨rfl, rfl⟩; simp only [HB'.out])
            go_roundw
            case rel => exact ⟨k + 1, ws, by omega, by go_num, HO.out, HBL.out, by omega, .inr ⟨k, rfl, by omega, by omega, by rw [← g_vis0 hk' HB.out]; exact HW.out⟩⟩
            case measure => simp [RowKit.intOf]; omega
          · have HW := Lib.hid hw
            clear hw
            go_wp2_with (go_at_call 68; refine (rblank_any _ wr).mono ?_; rintro e w' ⟨rfl, rfl⟩; simp only [HB'.out])
            go_roundw
            case rel => exact ⟨k + 1, ws, by omega, by go_num, HO.out, HBL.out, by omega, .inr ⟨f, rfl, by omega, by omega, by rw [← g_vis hk' (by omega) HB.out]; exact HW.out⟩⟩
            case measure => simp [RowKit.intOf]; omega
        · have HB : Hid (∃ h : k < s.data.toList.length, blkB s.data.toList[k] = true) := Lib.hid ⟨hk', hb⟩
          have HB' := Lib.hid hb
          clear hb
          rcases hcase with ⟨rfl, hw⟩ | ⟨f, rfl, hf, _, hw⟩
          · have HW := Lib.hid hw
            clear hw
            go_wp2_with (go_at_call 68; refine (rblank_any _ wr).mono ?_; rintro e w' ⟨rfl, rfl⟩; simp only [HB'.out])
            go_roundw
            case rel => exact ⟨k + 1, ws, by omega, by go_num, HO.out, HBL.out, by omega, .inl ⟨rfl, by rw [← g_blk0 (.inr HB.out)]; exact HW.out⟩⟩
            case measure => simp [RowKit.intOf]; omega
          · have HW := Lib.hid hw
            clear hw
            have hext := strV_extract s f k
            have HEXT := Lib.hid hext
            clear hext
            go_wp2_with (first
              | (go_at_call 68; refine (rblank_any _ wr).mono ?_; rintro e w' ⟨rfl, rfl⟩; simp only [HB'.out])
              | (at_builtin; refine wpList_append_own _ rfl _ _ 51 rfl w.heap.size 9 i0 (.string ⟨#[]⟩) 1 16 Tryz.underlying51 HI.out HZ0.out HZ1.out HZ2.out rfl (by decide) _ _ _ rfl (own_kept HO.out ((Kept.refl (fun _ => False) wr).alloc _) (fun _ _ f => f)) ⟨wr.heap.size, 0, none⟩ 1 1 [.string (s.extract f k)] rfl rfl (new_cells wr _ _) (by intro u hu; rw [List.mem_singleton.1 hu]; rfl) (by unfold maxLen; omega) (by omega) (by simp; omega) ?_; intro v' w1 hown' hgrow hnil; clear hnil))
            have HO1 : Hid (w1.ownsRow w.heap.size 9 1 v' (ws ++ [(s.data.toList.drop f).take (k - f)]).length ((ws ++ [(s.data.toList.drop f).take (k - f)]).map strV)) := Lib.hid (by rw [HEXT.out] at hown'; simpa using hown')
            have HK1 := Lib.hid ((((Kept.refl _ wr).alloc _).grown hgrow (fun j _ e => e)).toBelow (fun j e => (own_lt HO.out j e).1) (Nat.le_trans (Nat.le_refl _) hsz))
            obtain ⟨A4, cap4, rfl⟩ := own_shape hown'
            clear hown' hgrow
            have hc2 := rw_count HW.out
            rw [HL.out] at hc2
            go_wp2
            go_roundw
            case rel =>
              have hfl := g_flush hf (by rw [HL.out]; omega) (.inr HB.out)
              have hc3 : (ws ++ [(s.data.toList.drop f).take (k - f)]) ++ wordsG (s.data.toList.drop (k + 1)) [] = wordsL s.data.toList := by rw [List.append_assoc, List.singleton_append, ← hfl]; exact HW.out
              exact ⟨k + 1, _, by omega, by go_num, by simpa using HO1.out, HBL.out.trans HK1.out, rw_count hc3, .inl ⟨rfl, hc3⟩⟩
            case measure => simp [RowKit.intOf]; omega
      · obtain rfl : k = s.size := by omega
        have HE : Hid (s.data.toList.length ≤ s.size) := Lib.hid (by rw [HL.out]; exact Nat.le_refl _)
        rcases hcase with ⟨rfl, hw⟩ | ⟨f, rfl, hf, _, hw⟩
        · have HW := Lib.hid hw
          clear hw
          go_wp2
          go_roundw
          case rel => exact ⟨s.size + 1, ws, by omega, by go_num, HO.out, HBL.out, by omega, .inl ⟨rfl, by rw [← g_blk0 (.inl HE.out)]; exact HW.out⟩⟩
          case measure => simp [RowKit.intOf]
        · have HW := Lib.hid hw
          clear hw
          have hext := strV_extract s f s.size
          have HEXT := Lib.hid hext
          clear hext
          go_wp2_with (at_builtin; refine wpList_append_own _ rfl _ _ 51 rfl w.heap.size 9 i0 (.string ⟨#[]⟩) 1 16 Tryz.underlying51 HI.out HZ0.out HZ1.out HZ2.out rfl (by decide) _ _ _ rfl (own_kept HO.out ((Kept.refl (fun _ => False) wr).alloc _) (fun _ _ f => f)) ⟨wr.heap.size, 0, none⟩ 1 1 [.string (s.extract f s.size)] rfl rfl (new_cells wr _ _) (by intro u hu; rw [List.mem_singleton.1 hu]; rfl) (by unfold maxLen; omega) (by omega) (by simp; omega) ?_; intro v' w1 hown' hgrow hnil; clear hnil)
          have HO1 : Hid (w1.ownsRow w.heap.size 9 1 v' (ws ++ [(s.data.toList.drop f).take (s.size - f)]).length ((ws ++ [(s.data.toList.drop f).take (s.size - f)]).map strV)) := Lib.hid (by rw [HEXT.out] at hown'; simpa using hown')
          have HK1 := Lib.hid ((((Kept.refl _ wr).alloc _).grown hgrow (fun j _ e => e)).toBelow (fun j e => (own_lt HO.out j e).1) (Nat.le_trans (Nat.le_refl _) hsz))
          obtain ⟨A4, cap4, rfl⟩ := own_shape hown'
          clear hown' hgrow
          go_wp2
          go_roundw
          case rel =>
            have hfl := g_flush hf (by rw [HL.out]; omega) (.inl HE.out)
            have hc3 : (ws ++ [(s.data.toList.drop f).take (s.size - f)]) ++ wordsG (s.data.toList.drop (s.size + 1)) [] = wordsL s.data.toList := by rw [List.append_assoc, List.singleton_append, ← hfl]; exact HW.out
            exact ⟨s.size + 1, _, by omega, by go_num, by simpa using HO1.out, HBL.out.trans HK1.out, rw_count hc3, .inl ⟨rfl, hc3⟩⟩
          case measure => simp [RowKit.intOf]
    · obtain rfl : k = s.size + 1 := by omega
      rcases hcase with ⟨rfl, hw⟩ | ⟨f, rfl, hf, hk2, hw⟩
      · have hw' : ws = wordsL s.data.toList := by
          rw [List.drop_eq_nil_of_le (by rw [HL.out]; omega)] at hw
          simpa [wordsG] using hw
        subst hw'
        clear hw
        go_wp2
        go_ret
        exact ⟨_, rfl, HO.out, HBL.out⟩
      · rw [HL.out] at hk2; omega
end Go.Proofs.YteecmcphbehfgaaGreatDoor
