/- Plain laws for the document's Parse.
   Conditions: as each law states them. -/
import Derived.Test.YtknamddpflkifaaG12
namespace Go.Proofs.Ytknamddpflkifaa
open Go.RowKit Go.Lib

theorem spanL_drop (p : UInt8 → Bool) (l : List UInt8) (a i : Nat) : spanL p l (a + i) = a + spanL p (l.drop a) i := by
  unfold spanL
  rw [List.drop_drop]
  omega
theorem spanL_drop0 (p : UInt8 → Bool) (l : List UInt8) (a : Nat) : spanL p l a = a + spanL p (l.drop a) 0 := spanL_drop p l a 0
theorem longP_drop {T : List UInt8} {a : Nat} : ∀ (ws : List (List UInt8)) (i : Nat), longP T ws (a + i) = (longP (T.drop a) ws i).map (a + ·)
  | [], _ => rfl
  | x :: r, i => by
    rw [longP, longP, spanL_drop]
    split
    · rfl
    · rw [Nat.add_assoc]
      exact longP_drop r _

/-- Every body is its own words, joined. -/
def Sq (fs : List (List UInt8 × List UInt8)) : Prop := ∀ f ∈ fs, joinW (wordsL f.2) = f.2

section
variable {text : List UInt8} {a k : Nat} {fs : List (List UInt8 × List UInt8)}
theorem parse_err {tot : List (List UInt8 × List UInt8) × (Int × Int)} (ha : a < text.length) (hk : text.length < a + k) (h : parseL text k a fs = tot) {p e : Int} (h1 : (oneS text a fs).2.2 = (p, e)) (he : e ≠ 0) : tot = ([], (p, e)) := by
  obtain ⟨k', rfl⟩ : ∃ k', k = k' + 1 := ⟨k - 1, by omega⟩
  rw [← h, parseL, if_pos ha, if_pos (by rw [h1]; exact he), h1]
theorem parse_go {tot : List (List UInt8 × List UInt8) × (Int × Int)} (ha : a < text.length) (hk : text.length < a + k) (h : parseL text k a fs = tot) {a' : Nat} {fs' : List (List UInt8 × List UInt8)} (h1 : oneS text a fs = (a', fs', (0, 0))) (hlt : a < a') : ∃ k', text.length < a' + k' ∧ parseL text k' a' fs' = tot := by
  obtain ⟨k', rfl⟩ : ∃ k', k = k' + 1 := ⟨k - 1, by omega⟩
  refine ⟨k', by omega, ?_⟩
  rw [← h, parseL, if_pos ha, h1]
  rfl
theorem one_line {p e : Int} {L : List UInt8} (h : lineS text a = (L, (p, e))) (he : e ≠ 0) : (oneS text a fs).2.2 = (p, e) := by
  unfold oneS
  rw [h, if_pos he]
variable {L : List UInt8} (h : lineS text a = (L, (0, 0)))
include h
theorem one_cont0 (hc : contB L = true) : (oneS text a []).2.2 = ((a : Int), 3) := by
  unfold oneS
  rw [h]
  simp [hc]
theorem one_cont {n b : List UInt8} (hc : contB L = true) : oneS text a (fs ++ [(n, b)]) = (a + (L.length + 1), fs ++ [(n, (bodyS a b L 0).1)], (bodyS a b L 0).2) := by
  unfold oneS
  rw [h]
  simp only [hc]
  rw [if_neg (by simp), if_pos trivial, List.getLast?_concat]
  simp only [List.dropLast_concat]
theorem one_none (hc : contB L = false) (h58 : spanL (neB 58) L 0 = L.length) : (oneS text a fs).2.2 = ((a : Int), 3) := by
  unfold oneS
  rw [h]
  simp [hc, h58]
theorem one_name {c : Nat} (hc : contB L = false) (h58 : spanL (neB 58) L 0 = c) (hlt : c < L.length) (hv : validB (L.take c) = false) : (oneS text a fs).2.2 = ((a : Int), 12) := by
  unfold oneS
  rw [h]
  simp only [hc, h58, hv]
  rw [if_neg (by simp), if_neg (by simp), if_neg (by omega), if_pos trivial]
theorem one_full {c : Nat} (hc : contB L = false) (h58 : spanL (neB 58) L 0 = c) (hlt : c < L.length) (hv : validB (L.take c) = true) (hf : fs.length = 64) : (oneS text a fs).2.2 = ((a : Int), 9) := by
  unfold oneS
  rw [h]
  simp only [hc, h58, hv]
  rw [if_neg (by simp), if_neg (by simp), if_neg (by omega), if_neg (by simp), if_pos hf]
theorem one_new {c : Nat} (hc : contB L = false) (h58 : spanL (neB 58) L 0 = c) (hlt : c < L.length) (hv : validB (L.take c) = true) (hf : fs.length ≠ 64) : oneS text a fs = (a + (L.length + 1), fs ++ [(L.take c, (bodyS a [] L (c + 1)).1)], (bodyS a [] L (c + 1)).2) := by
  unfold oneS
  rw [h]
  simp only [hc, h58, hv]
  rw [if_neg (by simp), if_neg (by simp), if_neg (by omega), if_neg (by simp), if_neg hf]
end

/-- What add's answer means for the body of a field. -/
theorem add_body {T L b : List UInt8} {a fr : Nat} (hT : T.drop a = L) (w : World) {e : Ending} {w' : World} (h : AddPost T (wordsL b) (a + fr) w e w') :
    w = w' ∧ ∃ (b' : List UInt8) (bad : Int), e = .returned (.tuple #[strV b', .int .i64 bad]) ∧
      ((0 ≤ bad ∧ (bodyS a b L fr).2 = (bad, 5)) ∨
       (bad = -1 ∧ b' = (bodyS a b L fr).1 ∧ ((8192 < b'.length ∧ (bodyS a b L fr).2 = ((a : Int), 5)) ∨ (b'.length ≤ 8192 ∧ (bodyS a b L fr).2 = (0, 0))))) := by
  obtain ⟨h1, b', bad, h2, h3⟩ := h
  refine ⟨h1, b', bad, h2, ?_⟩
  have hd : T.drop (a + fr) = L.drop fr := by rw [← List.drop_drop, hT]
  have hl : longP T (wordsL (L.drop fr)) (a + fr) = (longP L (wordsL (L.drop fr)) fr).map (a + ·) := by rw [longP_drop, hT]
  rw [hd] at h3
  have hw : wordsG (L.drop fr) [] = wordsL (L.drop fr) := rfl
  rw [hw, hl] at h3
  cases hp : longP L (wordsL (L.drop fr)) fr with
  | some s =>
    rw [hp] at h3
    rcases h3 with ⟨p, e1, rfl⟩ | ⟨e1, _⟩
    · simp only [Option.map_some, Option.some.injEq] at e1
      subst e1
      refine .inl ⟨by omega, ?_⟩
      rw [bodyS_word hp]
      simp
    · simp at e1
  | none =>
    rw [hp] at h3
    rcases h3 with ⟨p, e1, _⟩ | ⟨_, e1, e2⟩
    · simp at e1
    · have hb : (bodyS a b L fr).1 = b' := by rw [e2]; rfl
      refine .inr ⟨e1, hb.symm, ?_⟩
      by_cases h8 : 8192 < b'.length
      · exact .inl ⟨h8, bodyS_long hp (by rw [← hb] at h8; exact h8)⟩
      · exact .inr ⟨by omega, bodyS_ok hp (by rw [← hb] at h8; exact h8)⟩
theorem bodyS_sq {a fr : Nat} {b L : List UInt8} : joinW (wordsL (bodyS a b L fr).1) = (bodyS a b L fr).1 := by
  unfold bodyS
  rw [wordsL_join (by
    intro w hw
    rcases List.mem_append.1 hw with hw | hw
    · exact wordsL_words _ w hw
    · exact wordsL_words _ w hw)]
end Go.Proofs.Ytknamddpflkifaa
