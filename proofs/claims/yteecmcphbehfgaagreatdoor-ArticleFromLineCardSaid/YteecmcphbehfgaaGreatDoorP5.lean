/- article: the first error of a body: plain functions. Conditions: none. -/
import Derived.Test.YteecmcphbehfgaaGreatDoorA11
namespace Go.Proofs.YteecmcphbehfgaaGreatDoor
open Go.RowKit Go.Lib

theorem errG_le : ∀ (f : Nat) (l : List UInt8) (a b : Nat), errG f l a = some b → b ≤ a + l.length
  | 0, _, _, _, h => by cases h
  | f + 1, l, a, b, h => by
    unfold errG at h
    split at h
    · cases h
    · cases hd : decL l with
      | none =>
        rw [hd] at h
        injection h with h
        omega
      | some q =>
        rw [hd] at h
        have := errG_le f _ _ _ h
        have hl := drop_lt hd
        rw [List.length_drop] at this
        omega
theorem badI_bd (l : List UInt8) : -1 ≤ badI l ∧ badI l ≤ l.length := by
  cases h : hidL hidN l with
  | some a =>
    rw [badI_hid h]
    rw [hidL_find] at h
    cases hf : (runesL l).find? (fun x => hidN x.2) with
    | none => rw [hf] at h; cases h
    | some x =>
      rw [hf] at h
      injection h with h
      have := (runesL_ok (List.mem_of_find?_eq_some hf)).2.2
      simp only at h
      omega
  | none =>
    cases h2 : errL l with
    | none => rw [badI_none h h2]; omega
    | some a =>
      rw [badI_err h h2]
      have := errG_le _ _ _ _ h2
      omega
/-- The length of the line that begins at an offset. -/
def lnN (l : List UInt8) (a : Nat) : Nat := spanL nlB (l.drop a) 0
def ckG (l : List UInt8) : Nat → Nat → Int × Int
  | 0, _ => (0, 0)
  | f + 1, a => if a < l.length then
      if lnN l a = l.length - a then ((l.length : Int), 4) else
      if 998 < lnN l a then ((a : Int) + 998, 5) else
      if 0 ≤ badI ((l.drop a).take (lnN l a)) then ((a : Int) + badI ((l.drop a).take (lnN l a)), 6) else ckG l f (a + lnN l a + 1)
    else (0, 0)
/-- The offset of the first error of a body and its code. -/
def ckI (l : List UInt8) : Int × Int := ckG l (l.length + 1) 0
def CkAt (l : List UInt8) (a : Nat) (r : Int × Int) : Prop := a ≤ l.length ∧ ∃ f, l.length < a + f ∧ ckG l f a = r
theorem CkAt.zero (l : List UInt8) : CkAt l 0 (ckI l) := ⟨Nat.zero_le _, l.length + 1, by omega, rfl⟩
theorem lnN_le (l : List UInt8) (a : Nat) : lnN l a ≤ l.length - a := by
  have := spanL_le nlB (l.drop a) 0 (Nat.zero_le _)
  rw [List.length_drop] at this
  exact this
theorem CkAt.done {l : List UInt8} {a : Nat} {r : Int × Int} (h : CkAt l a r) (ha : l.length ≤ a) : r = (0, 0) := by
  obtain ⟨_, f, hf, rfl⟩ := h
  cases f with
  | zero => rfl
  | succ f => rw [ckG, if_neg (by omega)]
theorem CkAt.short {l : List UInt8} {a : Nat} {r : Int × Int} (h : CkAt l a r) (ha : a < l.length) (hn : lnN l a = l.length - a) : r = ((l.length : Int), 4) := by
  obtain ⟨_, f, hf, rfl⟩ := h
  obtain ⟨g, rfl⟩ : ∃ g, f = g + 1 := ⟨f - 1, by omega⟩
  rw [ckG, if_pos ha, if_pos hn]
theorem CkAt.long {l : List UInt8} {a : Nat} {r : Int × Int} (h : CkAt l a r) (ha : a < l.length) (hn : lnN l a ≠ l.length - a) (h9 : 998 < lnN l a) : r = ((a : Int) + 998, 5) := by
  obtain ⟨_, f, hf, rfl⟩ := h
  obtain ⟨g, rfl⟩ : ∃ g, f = g + 1 := ⟨f - 1, by omega⟩
  rw [ckG, if_pos ha, if_neg hn, if_pos h9]
theorem CkAt.bad {l : List UInt8} {a : Nat} {r : Int × Int} (h : CkAt l a r) (ha : a < l.length) (hn : lnN l a ≠ l.length - a) (h9 : lnN l a ≤ 998) (hb : 0 ≤ badI ((l.drop a).take (lnN l a))) : r = ((a : Int) + badI ((l.drop a).take (lnN l a)), 6) := by
  obtain ⟨_, f, hf, rfl⟩ := h
  obtain ⟨g, rfl⟩ : ∃ g, f = g + 1 := ⟨f - 1, by omega⟩
  rw [ckG, if_pos ha, if_neg hn, if_neg (by omega), if_pos hb]
theorem CkAt.next {l : List UInt8} {a : Nat} {r : Int × Int} (h : CkAt l a r) (ha : a < l.length) (hn : lnN l a ≠ l.length - a) (h9 : lnN l a ≤ 998) (hb : ¬ 0 ≤ badI ((l.drop a).take (lnN l a))) : CkAt l (a + lnN l a + 1) r := by
  have hle := lnN_le l a
  obtain ⟨_, f, hf, rfl⟩ := h
  obtain ⟨g, rfl⟩ : ∃ g, f = g + 1 := ⟨f - 1, by omega⟩
  rw [ckG, if_pos ha, if_neg hn, if_neg (by omega), if_neg hb]
  exact ⟨by omega, g, by omega, rfl⟩
def CkPost (l : List UInt8) (w : World) (e : Ending) (w' : World) : Prop := e = .returned (.tuple #[.int .i64 (ckI l).1, .int .i64 (ckI l).2]) ∧ Below w.heap.size w w'
theorem CkPost.mk {l : List UInt8} {w w' : World} {a b : Int} (h : ckI l = (a, b)) (hb : Below w.heap.size w w') : CkPost l w (.returned (.tuple #[.int .i64 a, .int .i64 b])) w' := ⟨by rw [h], hb⟩
end Go.Proofs.YteecmcphbehfgaaGreatDoor
