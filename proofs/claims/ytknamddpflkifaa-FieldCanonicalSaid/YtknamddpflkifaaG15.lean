/- Plain laws: what is parsed is valid, and its text is at most twice as long.
   Conditions: as each law states them. -/
import Derived.Test.YtknamddpflkifaaG14
namespace Go.Proofs.Ytknamddpflkifaa
open Go.RowKit Go.Lib

/-- A valid field. -/
structure VF (f : List UInt8 × List UInt8) : Prop where
  name : validB f.1 = true
  sq : joinW (wordsL f.2) = f.2
  prt : ∀ c ∈ f.2, prtB c = true
  len : f.2.length ≤ 8192
  short : ∀ w ∈ wordsL f.2, longB w = false
theorem VF.check {f : List UInt8 × List UInt8} (h : VF f) : checkI f.1 f.2 = 0 := by
  refine check_ok h.name ?_ h.sq (by have := h.len; omega) ?_
  · unfold printI spanL
    have := List.takeWhile_append_of_pos (l₂ := []) h.prt
    rw [List.append_nil, List.takeWhile_nil, List.append_nil] at this
    rw [List.drop_zero, this, Nat.zero_add, if_pos rfl]
    decide
  · rw [List.any_eq_false]
    intro w hw
    rw [h.short w hw]
    decide
theorem longP_all : ∀ {l : List UInt8} {ws : List (List UInt8)} {a : Nat}, longP l ws a = none → ∀ w ∈ ws, longB w = false
  | _, [], _, _ => fun _ h => by cases h
  | l, x :: r, a, h => by
    rw [longP] at h
    split at h
    · cases h
    · rename_i hx
      intro w hw
      rcases List.mem_cons.1 hw with rfl | hw
      · simpa using hx
      · exact longP_all h w hw
theorem span_all {p : UInt8 → Bool} {l : List UInt8} (h : spanL p l 0 = l.length) : ∀ c ∈ l, p c = true := by
  unfold spanL at h
  rw [List.drop_zero, Nat.zero_add] at h
  have h2 : l.takeWhile p = l := (List.takeWhile_prefix p).eq_of_length h
  intro c hc
  rw [← h2] at hc
  exact mem_tw l c hc
theorem line_ok {text : List UInt8} {a : Nat} (h : (lineS text a).2.2 = 0) : ∀ c ∈ (lineS text a).1, okB c = true := by
  by_cases h1 : spanL nlB (text.drop a) 0 = (text.drop a).length
  · rw [lineS_none h1] at h; cases h
  · by_cases h2 : 998 < spanL nlB (text.drop a) 0
    · rw [lineS_long rfl h1 h2] at h; cases h
    · by_cases h3 : spanL okB ((text.drop a).take (spanL nlB (text.drop a) 0)) 0 = spanL nlB (text.drop a) 0
      · rw [lineS_ok rfl h1 h2 h3]
        refine span_all ?_
        rw [h3, List.length_take]
        have := spanL_le nlB (text.drop a) 0 (Nat.zero_le _)
        omega
      · have h4 := spanL_le okB ((text.drop a).take (spanL nlB (text.drop a) 0)) 0 (Nat.zero_le _)
        rw [List.length_take] at h4
        rw [lineS_bad rfl h1 h2 rfl (by omega)] at h
        cases h
theorem okb_prt {c : UInt8} (h : okB c = true) (hb : blkB c = false) : prtB c = true := by
  unfold okB at h
  rw [hb, Bool.or_false] at h
  unfold prtB
  rw [h, Bool.or_true]
theorem join_prt {ws : List (List UInt8)} (h : ∀ w ∈ ws, ∀ c ∈ w, prtB c = true) : ∀ c ∈ joinW ws, prtB c = true := by
  cases ws with
  | nil => intro c hc; cases hc
  | cons x r =>
    rw [joinW_cons]
    intro c hc
    rcases List.mem_append.1 hc with hc | hc
    · exact h x (by simp) c hc
    · obtain ⟨w, hw, hc⟩ := List.mem_flatMap.1 hc
      rcases List.mem_cons.1 hc with rfl | hc
      · decide
      · exact h w (by simp [hw]) c hc

/-- How long the text of a field may be. -/
def costF (f : List UInt8 × List UInt8) : Nat := f.1.length + 2 + (lensW (wordsL f.2) + 2 * (wordsL f.2).length)
def costL (fs : List (List UInt8 × List UInt8)) : Nat := (fs.map costF).sum
theorem costL_snoc (fs : List (List UInt8 × List UInt8)) (f : List UInt8 × List UInt8) : costL (fs ++ [f]) = costL fs + costF f := by simp [costL]
theorem lens_app (a b : List (List UInt8)) : lensW (a ++ b) = lensW a + lensW b := lensW_append a b

/-- The body behind a part of a line: valid, and not much longer. -/
theorem body_vf {a fr : Nat} {n b L : List UInt8} (hn : validB n = true) (hb1 : ∀ c ∈ b, prtB c = true) (hb2 : ∀ w ∈ wordsL b, longB w = false) (hL : ∀ c ∈ L, okB c = true) (h0 : (bodyS a b L fr).2.2 = 0) :
    VF (n, (bodyS a b L fr).1) ∧ lensW (wordsL (bodyS a b L fr).1) + (wordsL (bodyS a b L fr).1).length ≤ lensW (wordsL b) + (wordsL b).length + ((L.drop fr).length + 1) := by
  have hnone : longP L (wordsL (L.drop fr)) fr = none := by
    cases hp : longP L (wordsL (L.drop fr)) fr with
    | none => rfl
    | some s => rw [bodyS_word hp] at h0; cases h0
  have hw : ∀ w ∈ wordsL b ++ wordsL (L.drop fr), WordB w := by
    intro w hw
    rcases List.mem_append.1 hw with hw | hw
    · exact wordsL_words _ w hw
    · exact wordsL_words _ w hw
  have he : (bodyS a b L fr).1 = joinW (wordsL b ++ wordsL (L.drop fr)) := rfl
  have hwe : wordsL (bodyS a b L fr).1 = wordsL b ++ wordsL (L.drop fr) := by rw [he, wordsL_join hw]
  refine ⟨⟨hn, by show joinW (wordsL (bodyS a b L fr).1) = _; rw [hwe, he], ?_, ?_, ?_⟩, ?_⟩
  · show ∀ c ∈ (bodyS a b L fr).1, _
    rw [he]
    refine join_prt ?_
    intro w hw' c hc
    rcases List.mem_append.1 hw' with hw' | hw'
    · exact wordsL_all (fun c => prtB c = true) hb1 w hw' c hc
    · have h1 := wordsL_all (fun c => okB c = true) (fun c hc => hL c (List.mem_of_mem_drop hc)) w hw' c hc
      exact okb_prt h1 ((wordsL_words _ w hw').2 c hc)
  · exact bodyS_le h0
  · show ∀ w ∈ wordsL (bodyS a b L fr).1, _
    rw [hwe]
    intro w hw'
    rcases List.mem_append.1 hw' with hw' | hw'
    · exact hb2 w hw'
    · exact longP_all hnone w hw'
  · rw [hwe, lens_app, List.length_append]
    have := words_both (L.drop fr)
    omega

/-- All valid, and not too long. -/
structure AllV (fs : List (List UInt8 × List UInt8)) (a : Nat) : Prop where
  vf : ∀ f ∈ fs, VF f
  cost : costL fs ≤ 2 * a
theorem one_allV {text : List UInt8} {a : Nat} {fs : List (List UInt8 × List UInt8)} (h : AllV fs a) (h0 : (oneS text a fs).2.2.2 = 0) : AllV (oneS text a fs).2.1 (oneS text a fs).1 := by
  unfold oneS at h0 ⊢
  by_cases h1 : (lineS text a).2.2 ≠ 0
  · rw [if_pos h1] at h0; exact absurd h0 h1
  rw [if_neg h1] at h0 ⊢
  have hL := line_ok (text := text) (a := a) (by omega)
  by_cases h2 : contB (lineS text a).1 = true
  · rw [if_pos h2] at h0 ⊢
    rcases List.eq_nil_or_concat fs with rfl | ⟨fs0, ⟨n, b⟩, rfl⟩
    · exact absurd h0 (by show ¬ (3 : Int) = 0; decide)
    · rw [List.concat_eq_append] at h h0 ⊢
      rw [List.getLast?_concat] at h0 ⊢
      simp only [List.dropLast_concat] at h0 ⊢
      have hv := h.vf (n, b) (by simp)
      obtain ⟨k1, k2⟩ := body_vf (a := a) (fr := 0) (n := n) (b := b) hv.name hv.prt hv.short hL h0
      refine ⟨fun f hf => ?_, ?_⟩
      · rcases List.mem_append.1 hf with hf | hf
        · exact h.vf f (by simp [hf])
        · rw [List.mem_singleton] at hf
          rw [hf]
          exact k1
      · have hc := h.cost
        rw [costL_snoc] at hc ⊢
        have hpos : (lensW (wordsL (bodyS a b (lineS text a).1 0).1)) + 2 * (wordsL (bodyS a b (lineS text a).1 0).1).length ≤ lensW (wordsL b) + 2 * (wordsL b).length + 2 * ((lineS text a).1.length + 1) := by
          have e : wordsL (bodyS a b (lineS text a).1 0).1 = wordsL b ++ wordsL (lineS text a).1 := by
            show wordsL (joinW (wordsL b ++ wordsL ((lineS text a).1.drop 0))) = _
            rw [List.drop_zero, wordsL_join (by
              intro w hw
              rcases List.mem_append.1 hw with hw | hw
              · exact wordsL_words _ w hw
              · exact wordsL_words _ w hw)]
          rw [e, lens_app, List.length_append]
          have := words_both (lineS text a).1
          omega
        unfold costF at hc ⊢
        simp only at hc ⊢
        omega
  · rw [if_neg h2] at h0 ⊢
    by_cases h3 : spanL (neB 58) (lineS text a).1 0 = (lineS text a).1.length
    · rw [if_pos h3] at h0; exact absurd h0 (by show ¬ (3 : Int) = 0; decide)
    rw [if_neg h3] at h0 ⊢
    by_cases h4 : validB ((lineS text a).1.take (spanL (neB 58) (lineS text a).1 0)) = false
    · rw [if_pos h4] at h0; exact absurd h0 (by show ¬ (12 : Int) = 0; decide)
    rw [if_neg h4] at h0 ⊢
    by_cases h5 : fs.length = 64
    · rw [if_pos h5] at h0; exact absurd h0 (by show ¬ (9 : Int) = 0; decide)
    rw [if_neg h5] at h0 ⊢
    have h4' : validB ((lineS text a).1.take (spanL (neB 58) (lineS text a).1 0)) = true := by simpa using h4
    have hle := spanL_le (neB 58) (lineS text a).1 0 (Nat.zero_le _)
    generalize spanL (neB 58) (lineS text a).1 0 = c at *
    obtain ⟨k1, k2⟩ := body_vf (a := a) (fr := c + 1) (n := (lineS text a).1.take c) (b := []) h4' (fun _ h => by cases h) (fun _ h => by cases h) hL h0
    refine ⟨fun f hf => ?_, ?_⟩
    · rcases List.mem_append.1 hf with hf | hf
      · exact h.vf f hf
      · rw [List.mem_singleton] at hf
        rw [hf]
        exact k1
    · have hc := h.cost
      rw [costL_snoc]
      have e : wordsL [] = [] := rfl
      rw [e] at k2
      have e2 : lensW [] = 0 := rfl
      rw [e2, List.length_drop] at k2
      unfold costF
      simp only [List.length_take, List.length_nil] at k2 ⊢
      rw [Nat.min_eq_left (by omega)]
      omega
theorem parseL_allV {text : List UInt8} : ∀ (k a : Nat) (fs : List (List UInt8 × List UInt8)), AllV fs a → Good fs → a ≤ text.length → (parseL text k a fs).2.2 = 0 → (parseL text k a fs).1.length ≤ 64 ∧ AllV (parseL text k a fs).1 text.length
  | 0, a, fs, h, hG, ha, _ => ⟨hG.le, h.vf, by have := h.cost; show costL fs ≤ _; omega⟩
  | k + 1, a, fs, h, hG, ha, h0 => by
    rw [parseL] at h0 ⊢
    split at h0
    · rename_i hlt
      rw [if_pos hlt]
      split at h0
      · rename_i hne
        exact absurd h0 hne
      · rename_i hne
        rw [if_neg hne]
        have h1 : (oneS text a fs).2.2.2 = 0 := by omega
        obtain ⟨n1, n2, n3⟩ := oneS_next hG h1
        exact parseL_allV k _ _ (one_allV h h1) n3 n2 h0
    · rename_i hlt
      rw [if_neg hlt]
      exact ⟨hG.le, h.vf, by have := h.cost; show costL fs ≤ _; omega⟩
/-- What is parsed is valid. -/
theorem parse_allV {text : List UInt8} (h : (parseS text).2.2 = 0) : (parseS text).1.length ≤ 64 ∧ AllV (parseS text).1 text.length := by
  unfold parseS at h ⊢
  split at h
  · cases h
  · rename_i h6
    rw [if_neg h6]
    exact parseL_allV _ 0 [] ⟨fun _ h => (by cases h), Nat.zero_le _⟩ ⟨Nat.zero_le _, fun _ h => (by cases h)⟩ (Nat.zero_le _) h
theorem parseL_none {text : List UInt8} : ∀ (k a : Nat) (fs : List (List UInt8 × List UInt8)), (parseL text k a fs).2.2 ≠ 0 → (parseL text k a fs).1 = []
  | 0, _, _, h => absurd rfl h
  | k + 1, a, fs, h => by
    rw [parseL] at h ⊢
    split at h
    · rename_i hlt
      rw [if_pos hlt]
      split at h
      · rename_i hne
        rw [if_pos hne]
      · rename_i hne
        rw [if_neg hne]
        exact parseL_none k _ _ h
    · exact absurd rfl h
theorem parse_none {text : List UInt8} (h : (parseS text).2.2 ≠ 0) : (parseS text).1 = [] := by
  unfold parseS at h ⊢
  split
  · rfl
  · rename_i h6
    rw [if_neg h6] at h
    exact parseL_none _ _ _ h
/-- The sizes of what is parsed. -/
theorem parse_small (text : List UInt8) : (parseS text).1.length ≤ 64 ∧ ∀ f ∈ (parseS text).1, f.1.length ≤ 60 ∧ f.2.length ≤ 9000 := by
  by_cases h : (parseS text).2.2 = 0
  · obtain ⟨h1, h2⟩ := parse_allV h
    refine ⟨h1, fun f hf => ?_⟩
    have hv := h2.vf f hf
    obtain ⟨c, r, _, _, h40⟩ := valid_cons hv.name
    have := hv.len
    omega
  · rw [parse_none h]
    exact ⟨Nat.zero_le _, fun f hf => by cases hf⟩
theorem foldL_cost (n b : List UInt8) : (foldL n b).length ≤ costF (n, b) := by
  have h := foldS_len (wordsL b) [] (n ++ [58]) true
  unfold foldL costF
  rw [List.length_append, List.length_append]
  simp at h ⊢
  omega
theorem printL_valid : ∀ (fs : List (List UInt8 × List UInt8)) (out : List UInt8), (∀ f ∈ fs, checkI f.1 f.2 = 0) → (printL fs out).2 = 0 ∨ ((printL fs out).2 = 5 ∧ 65536 < out.length + costL fs)
  | [], out, _ => by
    unfold printL
    split
    · rename_i h
      exact .inr ⟨rfl, by simp [costL]; omega⟩
    · exact .inl rfl
  | f :: r, out, h => by
    unfold printL
    rw [if_neg (by have := h f (by simp); omega)]
    rcases printL_valid r (out ++ foldL f.1 f.2) (fun g hg => h g (by simp [hg])) with h1 | ⟨h1, h2⟩
    · exact .inl h1
    · refine .inr ⟨h1, ?_⟩
      have h3 := foldL_cost f.1 f.2
      have e : costL (f :: r) = costF f + costL r := by simp [costL]
      rw [List.length_append] at h2
      rw [e]
      have e2 : costF (f.1, f.2) = costF f := rfl
      omega
/-- The text of what was parsed. -/
theorem print_parsed {text : List UInt8} (h : (parseS text).2.2 = 0) : (printS (parseS text).1).2 = 0 ∨ ((printS (parseS text).1).2 = 5 ∧ 32768 < text.length) := by
  obtain ⟨h1, h2⟩ := parse_allV h
  unfold printS
  rw [if_neg (by omega)]
  rcases printL_valid _ [] (fun f hf => (h2.vf f hf).check) with h3 | ⟨h3, h4⟩
  · exact .inl h3
  · refine .inr ⟨h3, ?_⟩
    have := h2.cost
    simp at h4
    omega
end Go.Proofs.Ytknamddpflkifaa
