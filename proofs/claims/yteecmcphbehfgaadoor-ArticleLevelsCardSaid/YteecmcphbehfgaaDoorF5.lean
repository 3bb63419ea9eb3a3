/- The words by the document, the joined words, the test of a field over this translation.
   Conditions: texts of at most 1000000 bytes. -/
import Derived.Test.YteecmcphbehfgaaDoorF4
import Derived.Test.YteecmcphbehfgaaDoorShelf
namespace Go.Proofs.YteecmcphbehfgaaDoor
open Go.RowKit Go.Lib

/-! ### plain: the document's loop over a text -/
theorem drop_cons {l : List UInt8} {k : Nat} (h : k < l.length) : l.drop k = l[k] :: l.drop (k + 1) := List.drop_eq_getElem_cons h
theorem g_vis {l : List UInt8} {k f : Nat} (h : k < l.length) (hf : f ≤ k) (hb : blkB l[k] = false) : wordsG (l.drop k) ((l.drop f).take (k - f)) = wordsG (l.drop (k + 1)) ((l.drop f).take (k + 1 - f)) := by
  rw [drop_cons h]
  have e : (l.drop f).take (k + 1 - f) = (l.drop f).take (k - f) ++ [l[k]] := by
    rw [show k + 1 - f = (k - f) + 1 by omega, List.take_add_one, List.getElem?_drop, show f + (k - f) = k by omega, List.getElem?_eq_getElem h]
    rfl
  rw [e]
  simp [wordsG, hb]
theorem g_vis0 {l : List UInt8} {k : Nat} (h : k < l.length) (hb : blkB l[k] = false) : wordsG (l.drop k) [] = wordsG (l.drop (k + 1)) ((l.drop k).take (k + 1 - k)) := by
  have := g_vis h (Nat.le_refl k) hb
  rwa [Nat.sub_self, List.take_zero] at this
theorem g_blk0 {l : List UInt8} {k : Nat} (h : l.length ≤ k ∨ ∃ h : k < l.length, blkB l[k] = true) : wordsG (l.drop k) [] = wordsG (l.drop (k + 1)) [] := by
  rcases h with h | ⟨h, hb⟩
  · rw [List.drop_eq_nil_of_le h, List.drop_eq_nil_of_le (by omega)]
  · rw [drop_cons h]; simp [wordsG, hb]
theorem g_flush {l : List UInt8} {k f : Nat} (hf : f < k) (hk : k ≤ l.length) (h : l.length ≤ k ∨ ∃ h : k < l.length, blkB l[k] = true) :
    wordsG (l.drop k) ((l.drop f).take (k - f)) = ((l.drop f).take (k - f)) :: wordsG (l.drop (k + 1)) [] := by
  have hne : (l.drop f).take (k - f) ≠ [] := by
    intro e
    have := congrArg List.length e
    simp at this
    omega
  rcases h with h | ⟨h, hb⟩
  · rw [List.drop_eq_nil_of_le h, List.drop_eq_nil_of_le (show l.length ≤ k + 1 by omega)]; simp [wordsG, hne]
  · rw [drop_cons h]; simp [wordsG, hb, hne]

/-- What holds at the head of a round of bulletinref01.Words. -/
def RWRel (l : List UInt8) (w : World) (v3 v4 v5 : Value) (wr : World) : Prop :=
  ∃ (k : Nat) (ws : List (List UInt8)), k ≤ l.length + 1 ∧ v5 = .int .i64 k ∧ wr.ownsRow w.heap.size 9 1 v3 ws.length (ws.map strV) ∧ Below w.heap.size w wr ∧ ws.length ≤ l.length + 1 ∧
    ((v4 = .int .i64 (-1) ∧ ws ++ wordsG (l.drop k) [] = wordsL l) ∨ ∃ f : Nat, v4 = .int .i64 f ∧ f < k ∧ k ≤ l.length ∧ ws ++ wordsG (l.drop k) ((l.drop f).take (k - f)) = wordsL l)
theorem rw_count {l cur : List UInt8} {k : Nat} {ws : List (List UInt8)} (h : ws ++ wordsG (l.drop k) cur = wordsL l) : ws.length ≤ l.length + 1 := by
  have h1 := words_count l []
  have h2 : (wordsL l).length = (wordsG l []).length := rfl
  rw [← h, List.length_append] at h2
  omega

end Go.Proofs.YteecmcphbehfgaaDoor
