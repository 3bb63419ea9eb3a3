/- utf8: the code point at the head of a text, and whether a text has a byte that is not permitted: plain functions. Conditions: none. -/
import Derived.Test.YteecmcphbehfgaaGreatDoorA2
namespace Go.Proofs.YteecmcphbehfgaaGreatDoor
open Go.RowKit Go.Lib

/-- A byte behind the first one. -/
def contU (c : UInt8) : Bool := decide (128 ≤ c.toNat) && decide (c.toNat ≤ 191)
def maskN (n : Nat) : Nat := if n = 1 then 128 else if n = 2 then 32 else if n = 3 then 16 else 8
def minN (n : Nat) : Nat := if n = 1 then 0 else if n = 2 then 128 else if n = 3 then 2048 else 65536
def maxN (n : Nat) : Nat := if n = 1 then 127 else if n = 2 then 2047 else if n = 3 then 65535 else 1114111
/-- The number whose first bits are v and whose further bits stand in l. -/
def runeV (l : List UInt8) (v : Nat) : Nat := l.foldl (fun v c => v * 64 + c.toNat % 64) v
def scalB (n V : Nat) : Bool := decide (minN n ≤ V) && decide (V ≤ maxN n) && !(decide (55296 ≤ V) && decide (V ≤ 57343))
/-- Bytes that are a whole encoding, given the size that the first tells. -/
def goodT (n v : Nat) (t : List UInt8) : Bool := t.all contU && scalB n (runeV t v)
/-- The code point at the head and its size. -/
def decL : List UInt8 → Option (Nat × Nat)
  | [] => none
  | c :: r => if sizeB c = 0 then none else if r.length + 1 < sizeB c then none else
      if goodT (sizeB c) (c.toNat % maskN (sizeB c)) (r.take (sizeB c - 1)) = true then some (runeV (r.take (sizeB c - 1)) (c.toNat % maskN (sizeB c)), sizeB c) else none

theorem sizeB_le (c : UInt8) : sizeB c ≤ 4 := by unfold sizeB; (repeat' split) <;> omega
theorem decL_size {l : List UInt8} {r n : Nat} (h : decL l = some (r, n)) : 1 ≤ n ∧ n ≤ 4 ∧ n ≤ l.length := by
  cases l with
  | nil => cases h
  | cons c t =>
    rw [decL] at h
    have := sizeB_le c
    split at h
    · cases h
    · split at h
      · cases h
      · split at h
        · injection h with h
          injection h with _ h
          simp only [List.length_cons]
          omega
        · cases h
theorem scalB_iff (n V : Nat) : scalB n V = true ↔ (minN n ≤ V ∧ V ≤ maxN n) ∧ ¬ (55296 ≤ V ∧ V ≤ 57343) := by
  simp [scalB]
  omega
theorem decL_rune {l : List UInt8} {r n : Nat} (h : decL l = some (r, n)) : r ≤ 1114111 ∧ ¬ (55296 ≤ r ∧ r ≤ 57343) ∧ minN n ≤ r ∧ r ≤ maxN n := by
  cases l with
  | nil => cases h
  | cons c t =>
    rw [decL] at h
    split at h
    · cases h
    · split at h
      · cases h
      · split at h
        · rename_i hg
          injection h with h
          injection h with h1 h2
          subst h1
          subst h2
          unfold goodT at hg
          rw [Bool.and_eq_true, scalB_iff] at hg
          refine ⟨?_, hg.2.2, hg.2.1⟩
          have : maxN (sizeB c) ≤ 1114111 := by unfold maxN; (repeat' split) <;> omega
          exact Nat.le_trans hg.2.1.2 this
        · cases h

/-! ### the bytes read so far -/
def tlB (s : ByteArray) : List UInt8 := s.data.toList.drop 1
def preV (s : ByteArray) (k v : Nat) : Nat := runeV ((tlB s).take (k - 1)) v
def preC (s : ByteArray) (k : Nat) : Bool := ((tlB s).take (k - 1)).all contU
theorem tl_take (s : ByteArray) (k : Nat) (h1 : 1 ≤ k) (h : k < s.size) : (tlB s).take (k + 1 - 1) = (tlB s).take (k - 1) ++ [s[k]] := by
  have hl : (tlB s).length = s.size - 1 := by unfold tlB; rw [List.length_drop]; simp
  have hk : k - 1 < (tlB s).length := by omega
  rw [show k + 1 - 1 = k - 1 + 1 by omega, List.take_succ_eq_append_getElem hk]
  congr 2
  have e : (tlB s)[k - 1]? = some s[k] := by
    unfold tlB
    rw [List.getElem?_drop, show 1 + (k - 1) = k by omega]
    exact List.getElem?_eq_some_iff.2 ⟨by simpa using h, rfl⟩
  rw [List.getElem?_eq_getElem hk] at e
  exact Option.some.inj e
theorem preV_one (s : ByteArray) (v : Nat) : preV s 1 v = v := by unfold preV; simp [runeV]
theorem preC_one (s : ByteArray) : preC s 1 = true := by unfold preC; simp
theorem preV_step {s : ByteArray} {k : Nat} (v : Nat) (h1 : 1 ≤ k) (h : k < s.size) : preV s (k + 1) v = preV s k v * 64 + s[k].toNat % 64 := by
  unfold preV
  rw [tl_take s k h1 h]
  simp [runeV]
theorem preC_step {s : ByteArray} {k : Nat} (h1 : 1 ≤ k) (h : k < s.size) : preC s (k + 1) = (preC s k && contU s[k]) := by
  unfold preC
  rw [tl_take s k h1 h]
  simp
theorem preV_all (s : ByteArray) (v : Nat) : preV s s.size v = runeV (tlB s) v := by
  unfold preV
  rw [List.take_of_length_le (by unfold tlB; rw [List.length_drop]; simp)]
theorem preC_all (s : ByteArray) : preC s s.size = (tlB s).all contU := by
  unfold preC
  rw [List.take_of_length_le (by unfold tlB; rw [List.length_drop]; simp)]
theorem preC_bad {s : ByteArray} {k : Nat} (h1 : 1 ≤ k) (h : k < s.size) (hc : contU s[k] = false) : (tlB s).all contU = false := by
  have hm : s[k] ∈ tlB s := by
    have := tl_take s k h1 h
    exact List.mem_of_mem_take (i := k + 1 - 1) (by rw [this]; simp)
  rw [List.all_eq_false]
  exact ⟨_, hm, by simp [hc]⟩
end Go.Proofs.YteecmcphbehfgaaGreatDoor
