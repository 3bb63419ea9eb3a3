/- utf8: the code points of a text and their offsets, up to the first error: plain functions. Conditions: none. -/
import Derived.Test.YteecmcphbehfgaaGreatDoorP3
namespace Go.Proofs.YteecmcphbehfgaaGreatDoor
open Go.RowKit Go.Lib

def runeG : Nat → List UInt8 → Nat → List (Nat × Nat)
  | 0, _, _ => []
  | f + 1, l, a => if l = [] then [] else match decL l with
    | none => []
    | some q => (a, q.1) :: runeG f (l.drop q.2) (a + q.2)
def runesL (l : List UInt8) : List (Nat × Nat) := runeG l.length l 0
theorem runeG_fuel : ∀ (f g : Nat) (l : List UInt8) (a : Nat), l.length ≤ f → l.length ≤ g → runeG f l a = runeG g l a
  | 0, g, l, a, h, _ => by
    have : l = [] := List.length_eq_zero_iff.1 (by omega)
    subst this
    cases g <;> rfl
  | f + 1, 0, l, a, _, h => by
    have : l = [] := List.length_eq_zero_iff.1 (by omega)
    subst this
    rfl
  | f + 1, g + 1, l, a, h1, h2 => by
    unfold runeG
    split
    · rfl
    · cases hd : decL l with
      | none => rfl
      | some q =>
        have := drop_lt hd
        simp only
        rw [runeG_fuel f g _ _ (by omega) (by omega)]
/-- What is still to come from an offset on. -/
def RuneAt (l : List UInt8) (a : Nat) (pre : List (Nat × Nat)) : Prop := a ≤ l.length ∧ runesL l = pre ++ runeG (l.length - a) (l.drop a) a
theorem RuneAt.zero (l : List UInt8) : RuneAt l 0 [] := ⟨Nat.zero_le _, rfl⟩
theorem RuneAt.next {l : List UInt8} {a : Nat} {pre : List (Nat × Nat)} {q : Nat × Nat} (h : RuneAt l a pre) (ha : a < l.length) (hd : decL (l.drop a) = some q) : RuneAt l (a + q.2) (pre ++ [(a, q.1)]) ∧ pre ++ [(a, q.1)] <+: runesL l := by
  have hz := drop_size hd
  obtain ⟨f, hf⟩ : ∃ f, l.length - a = f + 1 := ⟨l.length - a - 1, by omega⟩
  have hne : l.drop a ≠ [] := by intro e; have := congrArg List.length e; rw [List.length_drop] at this; simp at this; omega
  have h2 := h.2
  rw [hf, runeG, if_neg hne, hd] at h2
  simp only at h2
  rw [List.drop_drop] at h2
  have e : runeG f (l.drop (a + q.2)) (a + q.2) = runeG (l.length - (a + q.2)) (l.drop (a + q.2)) (a + q.2) := runeG_fuel _ _ _ _ (by rw [List.length_drop]; omega) (by rw [List.length_drop]; omega)
  rw [e] at h2
  refine ⟨⟨hz.2, by rw [h2]; simp⟩, ⟨runeG (l.length - (a + q.2)) (l.drop (a + q.2)) (a + q.2), by rw [h2]; simp⟩⟩
theorem RuneAt.no {l : List UInt8} {a : Nat} {pre : List (Nat × Nat)} (h : RuneAt l a pre) (hd : decL (l.drop a) = none) : runesL l = pre := by
  have h2 := h.2
  have e : runeG (l.length - a) (l.drop a) a = [] := by
    cases l.length - a with
    | zero => rfl
    | succ f => rw [runeG, hd]; split <;> rfl
  rw [e, List.append_nil] at h2
  exact h2
theorem RuneAt.done {l : List UInt8} {a : Nat} {pre : List (Nat × Nat)} (h : RuneAt l a pre) (ha : l.length ≤ a) : runesL l = pre := by
  have h2 := h.2
  have e : runeG (l.length - a) (l.drop a) a = [] := by
    rw [List.drop_of_length_le ha]
    cases l.length - a <;> rfl
  rw [e, List.append_nil] at h2
  exact h2
/-- The first code point of a class is the first of the list. -/
theorem hidG_find (p : Nat → Bool) : ∀ (f : Nat) (l : List UInt8) (a : Nat), hidG p f l a = ((runeG f l a).find? (fun x => p x.2)).map (·.1)
  | 0, _, _ => rfl
  | f + 1, l, a => by
    unfold hidG runeG
    split
    · rfl
    · cases hd : decL l with
      | none => rfl
      | some q =>
        by_cases h : p q.1 = true
        · simp [h]
        · simp only [h]
          rw [hidG_find p f]
          simp [h]
theorem hidL_find (p : Nat → Bool) (l : List UInt8) : hidL p l = ((runesL l).find? (fun x => p x.2)).map (·.1) := hidG_find p _ _ _
theorem runeG_ok : ∀ (f : Nat) (l : List UInt8) (a : Nat), ∀ x ∈ runeG f l a, x.2 ≤ 1114111 ∧ ¬ (55296 ≤ x.2 ∧ x.2 ≤ 57343) ∧ x.1 ≤ a + l.length
  | 0, _, _, x, h => by cases h
  | f + 1, l, a, x, h => by
    unfold runeG at h
    split at h
    · cases h
    · cases hd : decL l with
      | none => rw [hd] at h; cases h
      | some q =>
        rw [hd] at h
        rcases List.mem_cons.1 h with rfl | h
        · have := decL_rune (l := l) (r := q.1) (n := q.2) hd
          exact ⟨this.1, this.2.1, Nat.le_add_right _ _⟩
        · have := runeG_ok f _ _ x h
          have hl := drop_lt hd
          refine ⟨this.1, this.2.1, ?_⟩
          rw [List.length_drop] at this
          omega
theorem runesL_ok {l : List UInt8} {x : Nat × Nat} (h : x ∈ runesL l) : x.2 ≤ 1114111 ∧ ¬ (55296 ≤ x.2 ∧ x.2 ≤ 57343) ∧ x.1 ≤ l.length := by
  have := runeG_ok _ _ _ x h
  omega
theorem runeG_len : ∀ (f : Nat) (l : List UInt8) (a : Nat), (runeG f l a).length ≤ f
  | 0, _, _ => Nat.le_refl _
  | f + 1, l, a => by
    unfold runeG
    split
    · simp
    · cases hd : decL l with
      | none => simp
      | some q => simp only [List.length_cons]; have := runeG_len f (l.drop q.2) (a + q.2); omega
theorem runesL_len (l : List UInt8) : (runesL l).length ≤ l.length := runeG_len _ _ _
end Go.Proofs.YteecmcphbehfgaaGreatDoor
