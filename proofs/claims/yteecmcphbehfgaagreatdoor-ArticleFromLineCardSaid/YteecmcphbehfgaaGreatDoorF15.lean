/- A header parsed by the program over this translation: the plain function and the walk.
   Conditions: the cell of internal/bytealg.MaxLen holds some int; texts of at most 1000000 bytes. -/
import Derived.Test.YteecmcphbehfgaaGreatDoorF14
import Derived.Deep.LoopGhost
namespace Go.Proofs.YteecmcphbehfgaaGreatDoor
open Go.RowKit Go.Lib

/-! ### plain -/
def parseL (text : List UInt8) : Nat → Nat → List (List UInt8 × List UInt8) → List (List UInt8 × List UInt8) × (Int × Int)
  | 0, _, fs => (fs, (0, 0))
  | f + 1, a, fs => if a < text.length then (if (oneS text a fs).2.2.2 ≠ 0 then ([], (oneS text a fs).2.2) else parseL text f (oneS text a fs).1 (oneS text a fs).2.1) else (fs, (0, 0))
/-- The fields of a header; or none, the offset of the first error and its code. -/
def parseS (text : List UInt8) : List (List UInt8 × List UInt8) × (Int × Int) := if 65536 < text.length then ([], (65536, 5)) else parseL text (text.length + 1) 0 []

theorem lineS_next {text : List UInt8} {a : Nat} (h : (lineS text a).2.2 = 0) : a + ((lineS text a).1.length + 1) ≤ text.length := by
  have hle := spanL_le nlB (text.drop a) 0 (Nat.zero_le _)
  rw [List.length_drop] at hle
  by_cases h1 : spanL nlB (text.drop a) 0 = (text.drop a).length
  · rw [lineS_none h1] at h; exact absurd h (by show ¬ (4 : Int) = 0; decide)
  · have hl : (text.drop a).length = text.length - a := List.length_drop ..
    rw [hl] at h1
    have key : ∀ r, (lineS text a) = ((text.drop a).take (spanL nlB (text.drop a) 0), r) → a + ((lineS text a).1.length + 1) ≤ text.length := fun r e => by
      rw [e]
      show a + (((text.drop a).take _).length + 1) ≤ _
      rw [List.length_take, hl]
      omega
    by_cases h2 : 998 < spanL nlB (text.drop a) 0
    · exact key _ (lineS_long rfl (by rw [hl]; exact h1) h2)
    · by_cases h3 : spanL okB ((text.drop a).take (spanL nlB (text.drop a) 0)) 0 = spanL nlB (text.drop a) 0
      · exact key _ (lineS_ok rfl (by rw [hl]; exact h1) h2 h3)
      · have := spanL_le okB ((text.drop a).take (spanL nlB (text.drop a) 0)) 0 (Nat.zero_le _)
        rw [List.length_take, hl] at this
        exact key _ (lineS_bad rfl (by rw [hl]; exact h1) h2 rfl (by omega))
theorem bodyS_le {a : Nat} {b l : List UInt8} {fr : Nat} (h : (bodyS a b l fr).2.2 = 0) : (bodyS a b l fr).1.length ≤ 8192 := by
  by_cases h8 : 8192 < (joinW (wordsL b ++ wordsL (l.drop fr))).length
  · cases hp : longP l (wordsL (l.drop fr)) fr with
    | none => rw [bodyS_long hp h8] at h; exact absurd h (by show ¬ (5 : Int) = 0; decide)
    | some s => rw [bodyS_word hp] at h; exact absurd h (by show ¬ (5 : Int) = 0; decide)
  · show (joinW (wordsL b ++ wordsL (l.drop fr))).length ≤ _
    omega
/-- A line without a failure: the offset grows within the text, the fields stay good. -/
theorem oneS_next {text : List UInt8} {a : Nat} {fs : List (List UInt8 × List UInt8)} (hG : Good fs) (h : (oneS text a fs).2.2.2 = 0) : a < (oneS text a fs).1 ∧ (oneS text a fs).1 ≤ text.length ∧ Good (oneS text a fs).2.1 := by
  unfold oneS at h ⊢
  by_cases h1 : (lineS text a).2.2 ≠ 0
  · rw [if_pos h1] at h; exact absurd h h1
  rw [if_neg h1] at h ⊢
  have hn := lineS_next (text := text) (a := a) (by omega)
  by_cases h2 : contB (lineS text a).1 = true
  · rw [if_pos h2] at h ⊢
    rcases List.eq_nil_or_concat fs with rfl | ⟨fs0, fl, hfs⟩
    · exact absurd h (by show ¬ (3 : Int) = 0; decide)
    · rw [List.concat_eq_append] at hfs
      subst hfs
      simp only [List.getLast?_append, List.getLast?_singleton, Option.or, List.dropLast_concat] at h ⊢
      refine ⟨by omega, hn, ⟨by have := hG.le; simpa using this, fun f hf => ?_⟩⟩
      rcases List.mem_append.1 hf with hf | hf
      · exact hG.body f (List.mem_append_left _ hf)
      · rw [List.mem_singleton.1 hf]; exact bodyS_le h
  rw [if_neg h2] at h ⊢
  by_cases h3 : spanL (neB 58) (lineS text a).1 0 = (lineS text a).1.length
  · rw [if_pos h3] at h; exact absurd h (by show ¬ (3 : Int) = 0; decide)
  rw [if_neg h3] at h ⊢
  by_cases h4 : validB ((lineS text a).1.take (spanL (neB 58) (lineS text a).1 0)) = false
  · rw [if_pos h4] at h; exact absurd h (by show ¬ (12 : Int) = 0; decide)
  rw [if_neg h4] at h ⊢
  by_cases h5 : fs.length = 64
  · rw [if_pos h5] at h; exact absurd h (by show ¬ (9 : Int) = 0; decide)
  rw [if_neg h5] at h ⊢
  refine ⟨by show a < a + (_ + 1); omega, hn, ⟨by have := hG.le; simp; omega, fun f hf => ?_⟩⟩
  rcases List.mem_append.1 hf with hf | hf
  · exact hG.body f hf
  · rw [List.mem_singleton.1 hf]; exact bodyS_le h

/-- What Parse hands back. -/
def ParsePost (l : List UInt8) (w : World) (e : Ending) (w' : World) : Prop :=
  ∃ v, e = .returned (.tuple #[v, .int .i64 (parseS l).2.1, .int .i64 (parseS l).2.2]) ∧ w'.ownsRow w.heap.size 70 2 v (parseS l).1.length (cellsF (parseS l).1) ∧ Below w.heap.size w w'

/-- What holds at the head of a round of Parse. -/
def PRel (p : Nat) (text : ByteArray) (tot : List (List UInt8 × List UInt8) × (Int × Int)) (w : World) (k : Nat) (wr : World) : Prop :=
  ∃ (a : Nat) (fs : List (List UInt8 × List UInt8)) (st : Int × Int) (g : Option Nat), PSt w.heap.size p text a fs st g wr ∧ Below w.heap.size w wr ∧
    ((st.2 ≠ 0 ∧ tot = ([], st)) ∨ (st = (0, 0) ∧ Good fs ∧ a ≤ text.size ∧ text.size < a + k ∧ parseL text.data.toList k a fs = tot))

set_option maxRecDepth 10000 in
set_option maxHeartbeats 2000000 in
theorem parse_any (text : ByteArray) (w : World) (m : Int) (hs : text.size ≤ 1000000) (hm : w.cell? ⟨0, 0, none⟩ = some (.int .i64 m)) :
    Calls Tryz.prog 66 #[.string text] w (ParsePost text.data.toList w) := by
  have hll : text.data.toList.length = text.size := by simp
  have h0 : 0 < w.heap.size := by
    rcases Nat.eq_zero_or_pos w.heap.size with h | h
    · simp [World.cell?, Array.getElem?_eq_none (show w.heap.size ≤ 0 by omega)] at hm
    · exact h
  have HLL := Lib.hid hll
  clear hll
  by_cases hb : 65536 < text.size
  · have HE : Hid (parseS text.data.toList = ([], (65536, 5))) := Lib.hid (by unfold parseS; rw [if_pos (by rw [HLL.out]; exact hb)])
    go_enter Tryz.func66, Tryz.ntmps66
    go_wp2
    go_ret3
    exact ⟨.slice none 0 0, by rw [HE.out]; rfl, by rw [HE.out]; exact ⟨rfl, .inl ⟨rfl, rfl⟩⟩, Below.refl _ _⟩
  have HE : Hid (parseS text.data.toList = parseL text.data.toList (text.size + 1) 0 []) := Lib.hid (by unfold parseS; rw [if_neg (by rw [HLL.out]; exact hb), HLL.out])
  have hst : PSt w.heap.size w.heap.size text 0 [] (0, 0) none (w.alloc (.cells #[.string text, .int .i64 0, .slice none 0 0, .int .i64 0, .int .i64 0] 136)) :=
    ⟨Nat.le_refl _, .slice none 0 0, heap_alloc_new w _, ⟨rfl, .inl ⟨rfl, rfl⟩⟩, rfl⟩
  have HST := Lib.hid hst
  clear hst
  go_enter Tryz.func66, Tryz.ntmps66
  go_wp2
  go_loopg [] (text.size + 1) (fun k wr => PRel w.heap.size text (parseS text.data.toList) w k wr)
  case atStart => exact ⟨0, [], (0, 0), none, HST.out, (Below.refl _ _).alloc (Nat.le_refl _) _, .inr ⟨rfl, ⟨Nat.zero_le _, fun f hf => (by cases hf)⟩, Nat.zero_le _, by omega, HE.out.symm⟩⟩
  case round =>
    obtain ⟨a, fs, st, g, hP, hbl, hcase⟩ := hrel
    obtain ⟨q0, q1, q3, q4, r1, r2, r3, r4⟩ := hP.cells
    obtain ⟨vf, c2, hown, hgf, Af, capf, rfl⟩ := hP.c2
    have hmr : wr.cell? ⟨0, 0, none⟩ = some (.int .i64 m) := ((bcell hbl).1 _ _ h0).trans hm
    have hwr := hbl.size
    have HP := Lib.hid hP
    have HBL := Lib.hid hbl
    have HOW := Lib.hid hown
    clear hP hbl hown hgf r1 r2 r3 r4
    rcases hcase with ⟨hne, htot⟩ | ⟨rfl, hG, ha, hk, htot⟩
    · have hb1 : (st.2 == 0) = false := beq_eq_false_iff_ne.2 hne
      have hb2 : (st.2 != 0) = true := by rw [bne, hb1]; rfl
      have HT := Lib.hid htot
      clear hne htot
      go_wp2_with fail
      go_region
      go_wp2
      go_ret3
      exact ⟨.slice none 0 0, by rw [HT.out]; rfl, by rw [HT.out]; exact ⟨rfl, .inl ⟨rfl, rfl⟩⟩, HBL.out.drew⟩
    · have HG := Lib.hid hG
      have HT := Lib.hid htot
      clear hG htot
      by_cases hlt : a < text.size
      · obtain ⟨k', rfl⟩ : ∃ k', gk = k' + 1 := ⟨gk - 1, by omega⟩
        have C1 := Lib.hid (one_any HP.out m ha (by omega) HG.out hmr h0)
        go_wp2_with fail
        refine C1.out.mono ?_
        rintro e w1 ⟨rfl, ⟨g', hP1⟩, hk1⟩
        have HP1 := Lib.hid hP1
        have HB1 := Lib.hid (HBL.out.trans (hk1.toBelow (by
          rintro j (f | f)
          · have f' : j = w.heap.size := f
            omega
          · exact (HP.out.glt j f).1) hwr))
        clear hP1 hk1
        (try go_wp2)
        by_cases hf : (oneS text.data.toList a fs).2.2.2 ≠ 0
        · go_roundg 0
          case measure => omega
          case rel =>
            refine ⟨_, _, _, g', HP1.out, HB1.out, .inl ⟨by rw [stOf_fail hf]; exact hf, ?_⟩⟩
            rw [← HT.out, parseL, if_pos (by rw [HLL.out]; exact hlt), if_pos hf, stOf_fail hf]
        · have hf0 : (oneS text.data.toList a fs).2.2.2 = 0 := by omega
          obtain ⟨n1, n2, n3⟩ := oneS_next HG.out hf0
          rw [HLL.out] at n2
          go_roundg k'
          case measure => omega
          case rel =>
            refine ⟨_, _, _, g', HP1.out, HB1.out, .inr ⟨stOf_zero hf0, n3, n2, by omega, ?_⟩⟩
            rw [← HT.out, parseL, if_pos (by rw [HLL.out]; exact hlt), if_neg hf]
      · have HT2 : Hid (parseS text.data.toList = (fs, (0, 0))) := Lib.hid (by
          rw [← HT.out]
          cases gk with
          | zero => rfl
          | succ k' => rw [parseL, if_neg (by rw [HLL.out]; exact hlt)])
        go_wp2
        go_ret3
        exact ⟨_, by rw [HT2.out]; rfl, by rw [HT2.out]; exact HOW.out, HBL.out⟩
end Go.Proofs.YteecmcphbehfgaaGreatDoor
