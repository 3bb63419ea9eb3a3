/- The parser's body: the words of a part of a line added to the last field: the plain function and its laws.
   Conditions: texts of at most 1000000 bytes. -/
import Derived.Test.YteecmcphbehfgaaGreatDoorF11
import Derived.Lib.Index
namespace Go.Proofs.YteecmcphbehfgaaGreatDoor
open Go.RowKit Go.Lib

/-! ### plain -/
theorem index_here (w rest : List UInt8) : Lib.index (w ++ rest) w = 0 := by
  cases w with
  | nil => cases rest <;> rfl
  | cons c r =>
    show (if (c :: r).isPrefixOf (c :: r ++ rest) then (0 : Int) else _) = 0
    rw [if_pos (by rw [List.isPrefixOf_iff_prefix]; exact List.prefix_append _ _)]
theorem index_gap {w : List UInt8} (c0 : UInt8) (r0 : List UInt8) (hw : w = c0 :: r0) (hb : blkB c0 = false) : ∀ (gap rest : List UInt8), (∀ c ∈ gap, blkB c = true) → Lib.index (gap ++ (w ++ rest)) w = gap.length
  | [], rest, _ => index_here w rest
  | c :: gap, rest, h => by
    have ih := index_gap c0 r0 hw hb gap rest (fun x hx => h x (List.mem_cons_of_mem _ hx))
    have hc : blkB c = true := h c (List.mem_cons_self ..)
    show (if w.isPrefixOf (c :: (gap ++ (w ++ rest))) then (0 : Int) else if Lib.index (gap ++ (w ++ rest)) w == -1 then -1 else Lib.index (gap ++ (w ++ rest)) w + 1) = _
    have hp : w.isPrefixOf (c :: (gap ++ (w ++ rest))) = false := by
      subst hw
      rw [List.isPrefixOf_cons_cons]
      have : (c0 == c) = false := beq_eq_false_iff_ne.2 (fun e => by rw [e, hc] at hb; cases hb)
      rw [this]
      rfl
    rw [hp, ih]
    have : ((gap.length : Int) == -1) = false := beq_eq_false_iff_ne.2 (by omega)
    rw [this]
    simp

/-- Where a word begins that is too long, if there is one; the words are those from offset a on. -/
def longP (l : List UInt8) : List (List UInt8) → Nat → Option Nat
  | [], _ => none
  | x :: r, a => if longB x = true then some (spanL blkB l a) else longP l r (spanL blkB l a + x.length)

theorem mem_tw {p : UInt8 → Bool} : ∀ (l : List UInt8), ∀ c ∈ l.takeWhile p, p c = true
  | [], c, h => by simp at h
  | x :: r, c, h => by
    rw [List.takeWhile_cons] at h
    by_cases hx : p x = true
    · rw [if_pos hx] at h
      rcases List.mem_cons.1 h with rfl | h
      · exact hx
      · exact mem_tw r c h
    · rw [if_neg hx] at h
      simp at h

/-- The words from a on: the first begins behind the blanks. -/
theorem next_word {l : List UInt8} {a : Nat} {x : List UInt8} {r : List (List UInt8)} (ha : a ≤ l.length) (h : wordsG (l.drop a) [] = x :: r) :
    spanL blkB l a + x.length ≤ l.length ∧ wordsG (l.drop (spanL blkB l a + x.length)) [] = r ∧ Lib.index (l.drop a) x = ((spanL blkB l a : Nat) : Int) - a ∧ x.length ≤ l.length := by
  have hle := spanL_le blkB l a ha
  have hge := spanL_ge blkB l a
  rw [words_span] at h
  rcases atWord_span l a ha with he | ⟨hlt, hb⟩
  · rw [he, List.drop_length] at h
    cases h
  · have hw := words_word hlt hb
    rw [hw] at h
    injection h with h1 h2
    have he := spanL_le nblkB l (spanL blkB l a) hle
    have hg := span_gt hlt hb
    have hxl : x.length = spanL nblkB l (spanL blkB l a) - spanL blkB l a := by
      rw [← h1, List.length_take, List.length_drop]
      omega
    have hend : spanL blkB l a + x.length = spanL nblkB l (spanL blkB l a) := by omega
    refine ⟨by omega, by rw [hend]; exact h2, ?_, by omega⟩
    -- the gap, the word, the rest
    have hgap : l.drop a = (l.drop a).takeWhile blkB ++ l.drop (spanL blkB l a) := by
      rw [drop_span]
      exact (List.takeWhile_append_dropWhile).symm
    have hword : l.drop (spanL blkB l a) = x ++ l.drop (spanL nblkB l (spanL blkB l a)) := by
      rw [← h1]
      conv => lhs; rw [← List.take_append_drop (spanL nblkB l (spanL blkB l a) - spanL blkB l a) (l.drop (spanL blkB l a))]
      rw [List.drop_drop]
      congr 2
      omega
    have hx0 : ∃ c0 r0, x = c0 :: r0 ∧ blkB c0 = false := by
      rw [← h1, List.drop_eq_getElem_cons hlt]
      obtain ⟨q, hq⟩ : ∃ q, spanL nblkB l (spanL blkB l a) - spanL blkB l a = q + 1 := ⟨_, (Nat.succ_pred_eq_of_pos (by omega)).symm⟩
      rw [hq, List.take_succ_cons]
      exact ⟨_, _, rfl, hb⟩
    obtain ⟨c0, r0, hx, hb0⟩ := hx0
    have hall : ∀ c ∈ (l.drop a).takeWhile blkB, blkB c = true := mem_tw _
    rw [hgap, hword, index_gap c0 r0 hx hb0 _ _ hall]
    unfold spanL
    omega

/-- The body of a field and the failure behind a part of a line. -/
def bodyS (at' : Nat) (b line : List UInt8) (fr : Nat) : List UInt8 × (Int × Int) :=
  (joinW (wordsL b ++ wordsL (line.drop fr)),
    match longP line (wordsL (line.drop fr)) fr with
    | some s => ((at' : Int) + s, 5)
    | none => if 8192 < (joinW (wordsL b ++ wordsL (line.drop fr))).length then ((at' : Int), 5) else (0, 0))
theorem bodyS_word {at' : Nat} {b line : List UInt8} {fr s : Nat} (h : longP line (wordsL (line.drop fr)) fr = some s) : (bodyS at' b line fr).2 = ((at' : Int) + s, (5 : Int)) := by unfold bodyS; rw [h]
theorem bodyS_long {at' : Nat} {b line : List UInt8} {fr : Nat} (h : longP line (wordsL (line.drop fr)) fr = none) (h1 : 8192 < (joinW (wordsL b ++ wordsL (line.drop fr))).length) : (bodyS at' b line fr).2 = ((at' : Int), (5 : Int)) := by
  unfold bodyS; rw [h]; simp only; rw [if_pos h1]
theorem bodyS_ok {at' : Nat} {b line : List UInt8} {fr : Nat} (h : longP line (wordsL (line.drop fr)) fr = none) (h1 : ¬ 8192 < (joinW (wordsL b ++ wordsL (line.drop fr))).length) : (bodyS at' b line fr).2 = (0, 0) := by
  unfold bodyS; rw [h]; simp only; rw [if_neg h1]

/-! ### rows of cells -/
theorem own_set {B sz n cap gb : Nat} {E : TypeId} {xs : List Value} {w : World} (h : w.ownsRow B E sz (.slice (some ⟨gb, 0, none⟩) n cap) n xs) {i : Nat} (_ : i < xs.length) (u : Value) : (w.setCell ⟨gb, i, none⟩ u).ownsRow B E sz (.slice (some ⟨gb, 0, none⟩) n cap) n (xs.set i u) := by
  refine ⟨by rw [List.length_set]; exact h.1, ?_⟩
  rcases h.2 with ⟨he, _⟩ | ⟨g', cap', cur, he, hB, hg, h1, h2, h3, h4⟩
  · cases he
  · injection he with he1 _ he2
    injection he1 with he1
    injection he1 with he1
    subst he1; subst he2
    refine .inr ⟨gb, cap, cur.setIfInBounds i u, rfl, hB, heap_set hg u, h1, h2, by simpa using h3, ?_⟩
    rw [Array.toList_setIfInBounds, ← h4, List.take_set]
theorem cellsF_append (a b : List (List UInt8 × List UInt8)) : cellsF (a ++ b) = cellsF a ++ cellsF b := by simp [cellsF]
theorem cellsF_len : ∀ (a : List (List UInt8 × List UInt8)), (cellsF a).length = 2 * a.length
  | [] => rfl
  | x :: r => by
    have := cellsF_len r
    have e : cellsF (x :: r) = [strV x.1, strV x.2] ++ cellsF r := by simp [cellsF]
    rw [e, List.length_append, this]
    simp
    omega
theorem cellsF_last (fs : List (List UInt8 × List UInt8)) (nm b b' : List UInt8) : (cellsF (fs ++ [(nm, b)])).set (2 * fs.length + 1) (strV b') = cellsF (fs ++ [(nm, b')]) := by
  rw [cellsF_append, cellsF_append, List.set_append_right _ _ (by rw [cellsF_len]; omega), cellsF_len, show 2 * fs.length + 1 - 2 * fs.length = 1 by omega]
  rfl
end Go.Proofs.YteecmcphbehfgaaGreatDoor
