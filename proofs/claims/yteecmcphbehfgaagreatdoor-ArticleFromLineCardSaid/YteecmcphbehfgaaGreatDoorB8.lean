/- article: the level of a line and the quoted line. Conditions: texts of at most 1000000 bytes. -/
import Derived.Test.YteecmcphbehfgaaGreatDoorB2
namespace Go.Proofs.YteecmcphbehfgaaGreatDoor
open Go.RowKit Go.Lib

def mkB (c : UInt8) : Bool := c == 62
/-- The rest of a line behind its marks, and one space less where there is a mark. -/
def lvR (l : List UInt8) : List UInt8 := if 0 < (l.takeWhile mkB).length then (match l.dropWhile mkB with | c :: r => if c = 32 then r else c :: r | [] => []) else l.dropWhile mkB
def lvN (l : List UInt8) : Nat := (l.takeWhile mkB).length
theorem lv_len (l : List UInt8) : lvN l + (l.dropWhile mkB).length = l.length := by
  unfold lvN
  have := congrArg List.length (List.takeWhile_append_dropWhile (p := mkB) (l := l))
  rw [List.length_append] at this
  exact this
theorem trim_sp (l : List UInt8) : Lib.trimPrefix l [32] = (match l with | c :: r => if c = 32 then r else c :: r | [] => []) := by
  unfold Lib.trimPrefix Lib.hasPrefix
  cases l with
  | nil => rfl
  | cons c r =>
    by_cases h : c = 32
    · subst h; simp
    · have hb : ((32 : UInt8) == c) = false := by simp; exact fun e => h e.symm
      simp [List.isPrefixOf, hb, h]
def LevPost (l : List UInt8) (w : World) (e : Ending) (w' : World) : Prop := e = .returned (.tuple #[.int .i64 (lvN l : Nat), strV (lvR l)]) ∧ w = w'

set_option maxRecDepth 10000 in
set_option maxHeartbeats 1000000 in
theorem level_any (s : ByteArray) (hs : s.size ≤ 1000000) (w : World) : Calls Tryz.prog 26 #[.string s] w (LevPost s.data.toList w) := by
  have hll : s.data.toList.length = s.size := by simp
  have CT := Lib.hid (Tryz.strings_TrimLeft_one s 62 (by decide))
  have hle := lv_len s.data.toList
  obtain ⟨d, hd⟩ : ∃ d, s.data.toList.dropWhile mkB = d := ⟨_, rfl⟩
  have htl : Lib.trimLeftB s.data.toList 62 = d := hd
  obtain ⟨n, hn⟩ : ∃ n, lvN s.data.toList = n := ⟨_, rfl⟩
  rw [hd, hn, hll] at hle
  have CP := Lib.hid (Tryz.strings_TrimPrefix (bsOf d) ⟨#[32]⟩)
  have hsz : (bsOf d).size = d.length := bsOf_size _
  have hfin : ∀ x : List UInt8, (0 < n → x = Lib.trimPrefix d [32]) → (n = 0 → x = d) → lvR s.data.toList = x := fun x h1 h2 => by
    unfold lvR
    rw [hd]
    show (if 0 < lvN s.data.toList then _ else _) = _
    rw [hn]
    by_cases h : 0 < n
    · rw [if_pos h, h1 h, trim_sp]
    · rw [if_neg h, h2 (by omega)]
  have HFIN := Lib.hid hfin
  have HN := Lib.hid hn
  have HTL := Lib.hid htl
  clear hll hd htl hn hfin
  go_enter Tryz.func26, Tryz.ntmps26
  go_wp2_with fail
  refine (CT.out _).mono ?_
  rintro e w' ⟨rfl, rfl⟩
  rw [HTL.out]
  show _
  have hty : (⟨d.toArray⟩ : ByteArray) = bsOf d := rfl
  rw [hty]
  clear hty
  have hlev : ((s.size : Int) - (d.length : Int)) = (n : Int) := by omega
  by_cases h0 : 0 < n
  · have HF := Lib.hid (HFIN.out _ (fun _ => rfl) (fun e => absurd e (by omega)))
    go_wp2_with fail
    refine (CP.out _).mono ?_
    rintro e w' ⟨rfl, rfl⟩
    go_wp2
    go_ret2
    refine ⟨?_, rfl⟩
    rw [HN.out, HF.out, bsOf_data]
    rfl
  · have HF := Lib.hid (HFIN.out d (fun f => absurd f h0) (fun _ => rfl))
    go_wp2
    go_ret2
    refine ⟨?_, rfl⟩
    rw [HN.out, HF.out]
    rfl

/-- The quoted line of a line. -/
def qtL (l : List UInt8) : List UInt8 := if l = [] ∨ 0 < lvN l then 62 :: l else 62 :: 32 :: l
theorem size_pos_list {s : ByteArray} (h : 0 < s.size) : s.data.toList ≠ [] := by
  intro e
  have h2 : s.data.toList.length = s.size := by simp
  rw [e] at h2
  rw [← h2] at h
  exact absurd h (by decide)
set_option maxRecDepth 10000 in
set_option maxHeartbeats 1000000 in
theorem quoted_any (s : ByteArray) (hs : s.size ≤ 1000000) (w : World) : Calls Tryz.prog 46 #[.string s] w fun e w' => e = .returned (strV (qtL s.data.toList)) ∧ w = w' := by
  have CL := Lib.hid (level_any s hs w)
  by_cases h0 : s.size = 0
  · obtain rfl : s = ⟨#[]⟩ := by
      apply ByteArray.ext
      exact Array.eq_empty_of_size_eq_zero h0
    go_enter Tryz.func46, Tryz.ntmps46
    go_wp2_with fail
    refine CL.out.mono ?_
    rintro e w' ⟨rfl, rfl⟩
    simp only [strV]
    go_wp2
    go_ret
    exact ⟨rfl, rfl⟩
  · have hne := size_pos_list (s := s) (by omega)
    have e1 : s.toList ≠ [] := by rw [Lib.toList_data]; exact hne
    have e2 : s.toList.isEmpty = false := by rw [List.isEmpty_eq_false_iff]; exact e1
    have e3 : (s.toList == []) = false := by rw [← Bool.not_eq_true, beq_iff_eq]; exact e1
    obtain ⟨n, hn⟩ : ∃ n, lvN s.data.toList = n := ⟨_, rfl⟩
    have HN := Lib.hid hn
    have HNE := Lib.hid hne
    clear hn hne
    by_cases hl : 0 < n
    · have HE : Hid (qtL s.data.toList = 62 :: s.data.toList) := Lib.hid (by unfold qtL; rw [if_pos (.inr (by rw [HN.out]; exact hl))])
      go_enter Tryz.func46, Tryz.ntmps46
      go_wp2_with fail
      refine CL.out.mono ?_
      rintro e w' ⟨rfl, rfl⟩
      simp only [strV]
      rw [HN.out]
      go_wp2
      go_ret
      refine ⟨?_, rfl⟩
      rw [HE.out]
      have e : bsOf (62 :: s.data.toList) = bsOf [62] ++ bsOf s.data.toList := by rw [bsOf_append]; rfl
      unfold strV
      rw [e, bsOf_eta]
      rfl
    · have HE : Hid (qtL s.data.toList = 62 :: 32 :: s.data.toList) := Lib.hid (by unfold qtL; rw [if_neg (by rintro (f | f); exact HNE.out f; rw [HN.out] at f; exact hl f)])
      obtain rfl : n = 0 := by omega
      go_enter Tryz.func46, Tryz.ntmps46
      go_wp2_with fail
      refine CL.out.mono ?_
      rintro e w' ⟨rfl, rfl⟩
      simp only [strV]
      rw [HN.out]
      go_wp2
      go_ret
      refine ⟨?_, rfl⟩
      rw [HE.out]
      have e : bsOf (62 :: 32 :: s.data.toList) = bsOf [62, 32] ++ bsOf s.data.toList := by rw [bsOf_append]; rfl
      unfold strV
      rw [e, bsOf_eta]
      rfl
end Go.Proofs.YteecmcphbehfgaaGreatDoor
