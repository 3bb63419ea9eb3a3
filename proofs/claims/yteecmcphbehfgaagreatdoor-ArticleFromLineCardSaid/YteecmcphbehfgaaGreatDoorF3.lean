/- ascii.each and ascii.Words over this translation: a new slice that holds the words.
   Conditions: texts of at most 1000000 bytes. -/
import Derived.Test.YteecmcphbehfgaaGreatDoorF2
namespace Go.Proofs.YteecmcphbehfgaaGreatDoor
open Go.RowKit Go.Lib

theorem Kept.toBelow {F : Nat → Prop} {B : Nat} {w w' : World} (h : Kept F w w') (hF : ∀ k, F k → B ≤ k) (hB : B ≤ w.heap.size) : Below B w w' :=
  h.below (fun k hk _ f => by have := hF k f; omega) hB

set_option maxHeartbeats 400000 in
theorem not_any (w : World) : Calls Tryz.prog 141 #[.func (.func 115) #[] #[]] w fun e w' =>
    e = .returned (.func (.func 146) #[] #[.pointer (some ⟨w.heap.size, 0, none⟩)]) ∧ w' = w.alloc (.cells #[.func (.func 115) #[] #[]] 108) := by
  go_enter Tryz.func141, Tryz.ntmps141
  go_wp2
  go_ret
  exact ⟨rfl, rfl⟩

/-- What holds at the head of a round of each. -/
def EachRel (B b c : Nat) (l : List UInt8) (w : World) (v : Value) (wr : World) : Prop :=
  ∃ (k : Nat) (ws : List (List UInt8)) (g : Option Nat), k ≤ l.length ∧ v = .int .i64 k ∧ AtWord l k ∧ ws ++ wordsG (l.drop k) [] = wordsL l ∧ OutAt B b ws g wr ∧ Below B w wr ∧
    wr.heap[c]? = some (.cells #[.func (.func 115) #[] #[]] 108 (0, 0))

theorem each_end {l : List UInt8} {k : Nat} {ws : List (List UInt8)} (hk : l.length ≤ k) (h : ws ++ wordsG (l.drop k) [] = wordsL l) : ws = wordsL l := by
  rw [List.drop_eq_nil_of_le hk] at h
  simpa [wordsG] using h
theorem each_count {l : List UInt8} {k : Nat} {ws : List (List UInt8)} (h : ws ++ wordsG (l.drop k) [] = wordsL l) : ws.length ≤ l.length + 1 := by
  have h1 := words_count l []
  have h2 : (wordsL l).length = (wordsG l []).length := rfl
  rw [← h, List.length_append] at h2
  omega

set_option maxHeartbeats 1000000 in
theorem each_words {B b : Nat} {w : World} (s : ByteArray) (h : OutAt B b [] none w) (hs : s.size ≤ 1000000) (hBw : B ≤ b) :
    Calls Tryz.prog 124 #[.string s, .func (.func 125) #[] #[.pointer (some ⟨b, 0, none⟩)]] w fun e w' => e = .returned (.tuple #[]) ∧ ∃ g, OutAt B b (wordsL s.data.toList) g w' ∧ Below B w w' := by
  have hll : s.data.toList.length = s.size := by simp
  have HL := Lib.hid hll
  have hlt := h.lt
  have H := Lib.hid h
  clear hll h
  have e75 : ∀ (args : Array Value) (w : World), (callFunc 115 args).run Tryz.prog w = .ok (.enter 115 args) w := enters_of Tryz.func115 (by kernel_rfl) rfl
  have e88 : ∀ (args : Array Value) (w : World), (callFunc 146 args).run Tryz.prog w = .ok (.enter 146 args) w := enters_of Tryz.func146 (by kernel_rfl) rfl
  have E75 := Lib.hid e75
  have E88 := Lib.hid e88
  clear e75 e88
  go_enter Tryz.func124, Tryz.ntmps124
  go_wp2_with (first
    | (go_at_call 141; refine (not_any _).mono ?_; rintro e w1 ⟨rfl, rfl⟩)
    | (go_at_call 139; refine (span_any s 0 115 #[] blkB _ (Nat.zero_le _) hs (class_blk _) E75.out).mono ?_; rintro e w1 ⟨rfl, rfl⟩))
  have hj := spanL_le blkB s.data.toList 0 (Nat.zero_le _)
  have hw0 := atWord_span s.data.toList 0 (Nat.zero_le _)
  have hd0 : wordsG (s.data.toList.drop (spanL blkB s.data.toList 0)) [] = wordsL s.data.toList := (words_span s.data.toList 0).symm
  generalize spanL blkB s.data.toList 0 = j at hj hw0 hd0 ⊢
  have HJ := Lib.hid hj
  have HW0 := Lib.hid hw0
  have HD0 := Lib.hid hd0
  clear hj hw0 hd0
  go_loopw [5, 6] (fun v _ wr => EachRel B b w.heap.size s.data.toList w v wr) (fun v _ _ => s.size - (RowKit.intOf v).toNat)
  case atStart =>
    exact ⟨j, [], none, HJ.out, rfl, HW0.out, by rw [List.nil_append, HD0.out], H.out.kept (F := fun _ => False) ((Kept.refl _ w).alloc _) (fun f => f) (fun _ _ f => f), (Below.refl _ _).alloc (by omega) _, heap_alloc_new w _⟩
  case round =>
    obtain ⟨k, ws, g, hk, rfl, hat, hws, hO, hb, hc⟩ := hrel
    rw [HL.out] at hk
    have HAT := Lib.hid hat
    have HWS := Lib.hid hws
    have HO := Lib.hid hO
    have HBL := Lib.hid hb
    have HC := Lib.hid hc
    clear hat hws hO hb hc
    by_cases hlt2 : k < s.size
    · have hk' : k < s.data.toList.length := by rw [HL.out]; exact hlt2
      have hnb : blkB s.data.toList[k] = false := by
        rcases HAT.out with h0 | ⟨_, h0⟩
        · rw [HL.out] at h0; omega
        · exact h0
      have hgt := span_gt hk' hnb
      have hle := spanL_le nblkB s.data.toList k (Nat.le_of_lt hk')
      have hcons := words_word hk' hnb
      have hext := strV_extract s k (spanL nblkB s.data.toList k)
      have c1 := Lib.hid (span_any s k 146 #[.pointer (some ⟨w.heap.size, 0, none⟩)] nblkB wr (by omega) hs (class_nblk _ _ (cell_of_one HC.out)) E88.out)
      generalize spanL nblkB s.data.toList k = m at hgt hle hcons hext c1 ⊢
      have hle' := hle
      rw [HL.out] at hle
      have hcnt := each_count HWS.out
      rw [HL.out] at hcnt
      have HCONS := Lib.hid hcons
      have HEXT := Lib.hid hext
      have HNB := Lib.hid hnb
      clear hcons hext hnb
      go_wp2_with fail
      refine c1.out.mono ?_
      rintro e w1 ⟨rfl, rfl⟩
      go_wp2_with fail
      have hHB : B ≤ wr.heap.size := by have := HBL.out.size; omega
      have c2 := words1_any ((s.data.toList.drop k).take (m - k)) HO.out (by omega) hHB
      rw [← HEXT.out] at c2
      refine c2.mono ?_
      rintro e w2 ⟨rfl, g2, hO2, hk2⟩
      have HO2 := Lib.hid hO2
      have HK2 := Lib.hid hk2
      have HC2 := Lib.hid (hk2.heap HC.out (by
        rintro (f | f)
        · have f' : w.heap.size = b := f
          omega
        · exact HO.out.gne HC.out (by decide) f))
      clear c2 hO2 hk2
      have hj := spanL_le blkB s.data.toList m (by omega)
      have hw0 := atWord_span s.data.toList m (by omega)
      have hd0 := words_span s.data.toList m
      have hge := spanL_ge blkB s.data.toList m
      have c3 := Lib.hid (span_any s m 115 #[] blkB w2 (by omega) hs (class_blk _) E75.out)
      generalize spanL blkB s.data.toList m = q at hj hw0 hd0 hge c3 ⊢
      have HW0 := Lib.hid hw0
      have HD0 := Lib.hid hd0
      clear hw0 hd0
      have hj' := hj
      rw [HL.out] at hj
      go_wp2_with fail
      refine c3.out.mono ?_
      rintro e w3 ⟨rfl, rfl⟩
      (try go_wp2)
      go_roundw
      case rel =>
        refine ⟨q, ws ++ [(s.data.toList.drop k).take (m - k)], g2, by omega, rfl, HW0.out, ?_, HO2.out, HBL.out.trans (HK2.out.toBelow ?_ hHB), HC2.out⟩
        · rw [List.append_assoc, List.singleton_append, ← HD0.out, ← HCONS.out, HWS.out]
        · rintro i (f | f)
          · omega
          · exact (HO.out.glt i f).1
      case measure => simp [RowKit.intOf]; omega
    · obtain rfl : k = s.size := by omega
      go_wp2
      go_end0
      exact ⟨rfl, g, by rw [← each_end (by rw [HL.out]; exact Nat.le_refl _) HWS.out]; exact HO.out, HBL.out⟩

/-- What ascii.Words hands back: a new slice that holds the words. -/
def WordsPost (l : List UInt8) (w : World) (e : Ending) (w' : World) : Prop :=
  ∃ v, e = .returned v ∧ w'.ownsRow w.heap.size 9 1 v (wordsL l).length ((wordsL l).map strV) ∧ Below w.heap.size w w'
set_option maxHeartbeats 400000 in
theorem words_any (s : ByteArray) (w : World) (hs : s.size ≤ 1000000) : Calls Tryz.prog 97 #[.string s] w (WordsPost s.data.toList w) := by
  have h0 : OutAt w.heap.size w.heap.size [] none (w.alloc (.cells #[.slice none 0 0] 51)) := ⟨_, heap_alloc_new w _, ⟨rfl, .inl ⟨rfl, rfl⟩⟩, rfl⟩
  have C1 := Lib.hid (each_words s h0 hs (Nat.le_refl _))
  clear h0
  go_enter Tryz.func97, Tryz.ntmps97
  go_wp2_with fail
  refine C1.out.mono ?_
  rintro e w1 ⟨rfl, g, ⟨v, hb, hown, hg⟩, hbl⟩
  have c0 := cell_of_one hb
  have HB := Lib.hid hb
  have HO := Lib.hid hown
  have HBL := Lib.hid hbl
  clear hb hown hbl hg
  go_wp2
  go_ret
  exact ⟨v, rfl, HO.out, ((Below.refl _ _).alloc (Nat.le_refl _) _).trans HBL.out⟩
end Go.Proofs.YteecmcphbehfgaaGreatDoor
