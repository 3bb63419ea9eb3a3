/- article: the lines of a text: plain functions. Conditions: none. -/
import Derived.Test.YteecmcphbehfgaaGreatDoorP5
namespace Go.Proofs.YteecmcphbehfgaaGreatDoor
open Go.RowKit Go.Lib

/-- The lines of a text with their numbers. -/
def linI : Nat → List UInt8 → Nat → List (Nat × List UInt8)
  | 0, _, _ => []
  | f + 1, l, i => if l = [] then [] else if spanL nlB l 0 = l.length then [(i, l)] else (i, l.take (spanL nlB l 0)) :: linI f (l.drop (spanL nlB l 0 + 1)) (i + 1)
def lineI (l : List UInt8) : List (Nat × List UInt8) := linI l.length l 0
def LineAt (l : List UInt8) (i : Nat) (pre : List (Nat × List UInt8)) (rest : List UInt8) : Prop := i = pre.length ∧ ∃ f, rest.length ≤ f ∧ lineI l = pre ++ linI f rest i
theorem LineAt.zero (l : List UInt8) : LineAt l 0 [] l := ⟨rfl, l.length, Nat.le_refl _, rfl⟩
theorem linI_nil (f i : Nat) : linI f [] i = [] := by cases f <;> rfl
theorem LineAt.last {l : List UInt8} {i : Nat} {pre : List (Nat × List UInt8)} {rest : List UInt8} (h : LineAt l i pre rest) (hne : rest ≠ []) (hn : spanL nlB rest 0 = rest.length) : LineAt l (i + 1) (pre ++ [(i, rest)]) [] ∧ pre ++ [(i, rest)] <+: lineI l := by
  obtain ⟨rfl, f, hf, he⟩ := h
  have hl : 0 < rest.length := List.length_pos_iff.2 hne
  obtain ⟨g, rfl⟩ : ∃ g, f = g + 1 := ⟨f - 1, by omega⟩
  rw [linI, if_neg hne, if_pos hn] at he
  exact ⟨⟨by simp, 0, Nat.le_refl _, by rw [he]; simp [linI]⟩, [], by rw [he]; simp⟩
theorem LineAt.next {l : List UInt8} {i : Nat} {pre : List (Nat × List UInt8)} {rest : List UInt8} (h : LineAt l i pre rest) (hne : rest ≠ []) (hn : spanL nlB rest 0 ≠ rest.length) : LineAt l (i + 1) (pre ++ [(i, rest.take (spanL nlB rest 0))]) (rest.drop (spanL nlB rest 0 + 1)) ∧ pre ++ [(i, rest.take (spanL nlB rest 0))] <+: lineI l := by
  obtain ⟨rfl, f, hf, he⟩ := h
  have hl : 0 < rest.length := List.length_pos_iff.2 hne
  obtain ⟨g, rfl⟩ : ∃ g, f = g + 1 := ⟨f - 1, by omega⟩
  rw [linI, if_neg hne, if_neg hn] at he
  exact ⟨⟨by simp, g, by rw [List.length_drop]; omega, by rw [he]; simp⟩, ⟨linI g (rest.drop (spanL nlB rest 0 + 1)) (pre.length + 1), by rw [he]; simp⟩⟩
theorem LineAt.done {l : List UInt8} {i : Nat} {pre : List (Nat × List UInt8)} (h : LineAt l i pre []) : lineI l = pre := by
  obtain ⟨rfl, f, hf, he⟩ := h
  rw [he, linI_nil, List.append_nil]
theorem linI_len : ∀ (f : Nat) (l : List UInt8) (i : Nat), (linI f l i).length ≤ l.length
  | 0, _, _ => Nat.zero_le _
  | f + 1, l, i => by
    unfold linI
    by_cases h1 : l = []
    · rw [if_pos h1]; simp
    · have hl : 0 < l.length := List.length_pos_iff.2 h1
      rw [if_neg h1]
      by_cases h2 : spanL nlB l 0 = l.length
      · rw [if_pos h2]; simp; omega
      · rw [if_neg h2]
        have := linI_len f (l.drop (spanL nlB l 0 + 1)) (i + 1)
        rw [List.length_drop] at this
        simp only [List.length_cons]
        omega
theorem linI_sum : ∀ (f : Nat) (l : List UInt8) (i : Nat), ∀ x ∈ linI f l i, x.2.length ≤ l.length
  | 0, _, _, x, h => by cases h
  | f + 1, l, i, x, h => by
    unfold linI at h
    by_cases h1 : l = []
    · rw [if_pos h1] at h; cases h
    · rw [if_neg h1] at h
      by_cases h2 : spanL nlB l 0 = l.length
      · rw [if_pos h2] at h
        rw [List.mem_singleton.1 h]; exact Nat.le_refl _
      · rw [if_neg h2] at h
        rcases List.mem_cons.1 h with rfl | h
        · show (l.take _).length ≤ _; rw [List.length_take]; omega
        · have := linI_sum f _ _ x h
          rw [List.length_drop] at this
          omega
theorem lineI_sum {l : List UInt8} {x : Nat × List UInt8} (h : x ∈ lineI l) : x.2.length ≤ l.length := linI_sum _ _ _ x h
theorem lineI_len (l : List UInt8) : (lineI l).length ≤ l.length := linI_len _ _ _
end Go.Proofs.YteecmcphbehfgaaGreatDoor
