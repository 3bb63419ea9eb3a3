/- utf8: the first byte of a line that is not permitted: plain functions. Conditions: none. -/
import Derived.Test.YteecmcphbehfgaaGreatDoorP1
namespace Go.Proofs.YteecmcphbehfgaaGreatDoor
open Go.RowKit Go.Lib

/-- A code point that a line may not hold. -/
def hidN (r : Nat) : Bool := ctlN r && decide (r ≠ 9)
/-- The offset of the first byte that is not permitted, from an offset on. -/
def badG : Nat → List UInt8 → Nat → Option Nat
  | 0, _, _ => none
  | f + 1, l, at' => if l = [] then none else match decL l with
    | none => some at'
    | some q => if hidN q.1 = true then some at' else badG f (l.drop q.2) (at' + q.2)
def badL (l : List UInt8) : Option Nat := badG l.length l 0
/-- The offset of the first code point of a class, before the first error. -/
def hidG (p : Nat → Bool) : Nat → List UInt8 → Nat → Option Nat
  | 0, _, _ => none
  | f + 1, l, at' => if l = [] then none else match decL l with
    | none => none
    | some q => if p q.1 = true then some at' else hidG p f (l.drop q.2) (at' + q.2)
/-- The offset of the first error. -/
def errG : Nat → List UInt8 → Nat → Option Nat
  | 0, _, _ => none
  | f + 1, l, at' => if l = [] then none else match decL l with
    | none => some at'
    | some q => errG f (l.drop q.2) (at' + q.2)
theorem badG_eq : ∀ (f : Nat) (l : List UInt8) (a : Nat), badG f l a = match hidG hidN f l a with | some x => some x | none => errG f l a
  | 0, _, _ => rfl
  | f + 1, l, a => by
    unfold badG hidG errG
    split
    · rfl
    · cases hd : decL l with
      | none => rfl
      | some q =>
        by_cases h : hidN q.1 = true
        · simp [h]
        · simp only [h]
          exact badG_eq f _ _
theorem drop_lt {l : List UInt8} {q : Nat × Nat} (h : decL l = some q) : (l.drop q.2).length + 1 ≤ l.length ∧ 1 ≤ q.2 ∧ q.2 ≤ l.length := by
  have := decL_size (l := l) (r := q.1) (n := q.2) h
  rw [List.length_drop]
  omega
/-- More fuel than bytes changes nothing. -/
theorem hidG_fuel (p : Nat → Bool) : ∀ (f g : Nat) (l : List UInt8) (a : Nat), l.length ≤ f → l.length ≤ g → hidG p f l a = hidG p g l a
  | 0, g, l, a, h, _ => by
    have : l = [] := List.length_eq_zero_iff.1 (by omega)
    subst this
    cases g <;> rfl
  | f + 1, 0, l, a, _, h => by
    have : l = [] := List.length_eq_zero_iff.1 (by omega)
    subst this
    rfl
  | f + 1, g + 1, l, a, h1, h2 => by
    unfold hidG
    split
    · rfl
    · cases hd : decL l with
      | none => rfl
      | some q =>
        have := drop_lt hd
        simp only
        rw [hidG_fuel p f g _ _ (by omega) (by omega)]
theorem errG_fuel : ∀ (f g : Nat) (l : List UInt8) (a : Nat), l.length ≤ f → l.length ≤ g → errG f l a = errG g l a
  | 0, g, l, a, h, _ => by
    have : l = [] := List.length_eq_zero_iff.1 (by omega)
    subst this
    cases g <;> rfl
  | f + 1, 0, l, a, _, h => by
    have : l = [] := List.length_eq_zero_iff.1 (by omega)
    subst this
    rfl
  | f + 1, g + 1, l, a, h1, h2 => by
    unfold errG
    split
    · rfl
    · cases hd : decL l with
      | none => rfl
      | some q =>
        have := drop_lt hd
        simp only
        rw [errG_fuel f g _ _ (by omega) (by omega)]
/-- One step of each, at an offset of a text. -/
theorem hidG_at {p : Nat → Bool} {l : List UInt8} {a f : Nat} {q : Nat × Nat} (ha : a < l.length) (hf : l.length - a ≤ f + 1) (h : decL (l.drop a) = some q) : hidG p (f + 1) (l.drop a) a = (if p q.1 = true then some a else hidG p f (l.drop (a + q.2)) (a + q.2)) := by
  have hne : l.drop a ≠ [] := by intro e; have := congrArg List.length e; rw [List.length_drop] at this; simp at this; omega
  rw [hidG, if_neg hne, h]
  simp only
  rw [List.drop_drop]
theorem errG_at {l : List UInt8} {a f : Nat} {q : Nat × Nat} (ha : a < l.length) (h : decL (l.drop a) = some q) : errG (f + 1) (l.drop a) a = errG f (l.drop (a + q.2)) (a + q.2) := by
  have hne : l.drop a ≠ [] := by intro e; have := congrArg List.length e; rw [List.length_drop] at this; simp at this; omega
  rw [errG, if_neg hne, h]
  simp only
  rw [List.drop_drop]
theorem hidG_no {p : Nat → Bool} {l : List UInt8} {a f : Nat} (h : decL (l.drop a) = none) : hidG p f (l.drop a) a = none := by
  cases f with
  | zero => rfl
  | succ f => rw [hidG, h]; split <;> rfl
theorem errG_no {l : List UInt8} {a f : Nat} (ha : a < l.length) (h : decL (l.drop a) = none) : errG (f + 1) (l.drop a) a = some a := by
  have hne : l.drop a ≠ [] := by intro e; have := congrArg List.length e; rw [List.length_drop] at this; simp at this; omega
  rw [errG, if_neg hne, h]
theorem hidG_end {p : Nat → Bool} {l : List UInt8} {a f : Nat} (h : l.length ≤ a) : hidG p f (l.drop a) a = none := by
  rw [List.drop_of_length_le h]
  cases f <;> rfl
theorem errG_end {l : List UInt8} {a f : Nat} (h : l.length ≤ a) : errG f (l.drop a) a = none := by
  rw [List.drop_of_length_le h]
  cases f <;> rfl
theorem drop_size {l : List UInt8} {a : Nat} {q : Nat × Nat} (h : decL (l.drop a) = some q) : 1 ≤ q.2 ∧ a + q.2 ≤ l.length := by
  have := decL_size (l := l.drop a) (r := q.1) (n := q.2) h
  rw [List.length_drop] at this
  omega
def hidL (p : Nat → Bool) (l : List UInt8) : Option Nat := hidG p l.length l 0
def errL (l : List UInt8) : Option Nat := errG l.length l 0
theorem badL_eq (l : List UInt8) : badL l = match hidL hidN l with | some x => some x | none => errL l := badG_eq _ _ _
/-- What holds of an offset up to which nothing was found. -/
def HidAt (p : Nat → Bool) (l : List UInt8) (a : Nat) (r : Option Nat) : Prop := a ≤ l.length ∧ hidG p (l.length - a) (l.drop a) a = r
def ErrAt (l : List UInt8) (a : Nat) (r : Option Nat) : Prop := a ≤ l.length ∧ errG (l.length - a) (l.drop a) a = r
theorem HidAt.zero (p : Nat → Bool) (l : List UInt8) : HidAt p l 0 (hidL p l) := ⟨Nat.zero_le _, rfl⟩
theorem ErrAt.zero (l : List UInt8) : ErrAt l 0 (errL l) := ⟨Nat.zero_le _, rfl⟩
theorem HidAt.step {p : Nat → Bool} {l : List UInt8} {a : Nat} {r : Option Nat} {q : Nat × Nat} (h : HidAt p l a r) (ha : a < l.length) (hd : decL (l.drop a) = some q) (hp : p q.1 = false) : HidAt p l (a + q.2) r := by
  have hz := drop_size hd
  obtain ⟨f, hf⟩ : ∃ f, l.length - a = f + 1 := ⟨l.length - a - 1, by omega⟩
  have h2 := h.2
  rw [hf, hidG_at ha (by omega) hd, if_neg (by simp [hp])] at h2
  exact ⟨hz.2, by rw [← h2]; exact hidG_fuel _ _ _ _ _ (by rw [List.length_drop]; omega) (by rw [List.length_drop]; omega)⟩
theorem HidAt.found {p : Nat → Bool} {l : List UInt8} {a : Nat} {r : Option Nat} {q : Nat × Nat} (h : HidAt p l a r) (ha : a < l.length) (hd : decL (l.drop a) = some q) (hp : p q.1 = true) : r = some a := by
  obtain ⟨f, hf⟩ : ∃ f, l.length - a = f + 1 := ⟨l.length - a - 1, by omega⟩
  have h2 := h.2
  rw [hf, hidG_at ha (by omega) hd, if_pos hp] at h2
  exact h2.symm
theorem HidAt.no {p : Nat → Bool} {l : List UInt8} {a : Nat} {r : Option Nat} (h : HidAt p l a r) (hd : decL (l.drop a) = none) : r = none := by
  have h2 := h.2
  rw [hidG_no hd] at h2
  exact h2.symm
theorem HidAt.done {p : Nat → Bool} {l : List UInt8} {a : Nat} {r : Option Nat} (h : HidAt p l a r) (ha : l.length ≤ a) : r = none := by
  have h2 := h.2
  rw [hidG_end ha] at h2
  exact h2.symm
theorem ErrAt.step {l : List UInt8} {a : Nat} {r : Option Nat} {q : Nat × Nat} (h : ErrAt l a r) (ha : a < l.length) (hd : decL (l.drop a) = some q) : ErrAt l (a + q.2) r := by
  have hz := drop_size hd
  obtain ⟨f, hf⟩ : ∃ f, l.length - a = f + 1 := ⟨l.length - a - 1, by omega⟩
  have h2 := h.2
  rw [hf, errG_at ha hd] at h2
  exact ⟨hz.2, by rw [← h2]; exact errG_fuel _ _ _ _ (by rw [List.length_drop]; omega) (by rw [List.length_drop]; omega)⟩
theorem ErrAt.no {l : List UInt8} {a : Nat} {r : Option Nat} (h : ErrAt l a r) (ha : a < l.length) (hd : decL (l.drop a) = none) : r = some a := by
  obtain ⟨f, hf⟩ : ∃ f, l.length - a = f + 1 := ⟨l.length - a - 1, by omega⟩
  have h2 := h.2
  rw [hf, errG_no ha hd] at h2
  exact h2.symm
theorem ErrAt.done {l : List UInt8} {a : Nat} {r : Option Nat} (h : ErrAt l a r) (ha : l.length ≤ a) : r = none := by
  have h2 := h.2
  rw [errG_end ha] at h2
  exact h2.symm
end Go.Proofs.YteecmcphbehfgaaGreatDoor
