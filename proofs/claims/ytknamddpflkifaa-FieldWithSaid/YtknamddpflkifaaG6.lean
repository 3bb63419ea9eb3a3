/- Plain laws: the lines of a folded field.
   Conditions: as each law states them. -/
import Derived.Test.YtknamddpflkifaaG5
namespace Go.Proofs.Ytknamddpflkifaa
open Go.RowKit Go.Lib

/-- The words of a line, each behind a space. -/
def flW (ws : List (List UInt8)) : List UInt8 := ws.flatMap fun w => 32 :: w
/-- The lines, each with a line feed. -/
def nlF (ls : List (List UInt8)) : List UInt8 := ls.flatMap fun l => l ++ [10]
def WordB (w : List UInt8) : Prop := w ≠ [] ∧ ∀ c ∈ w, blkB c = false

theorem flW_cons (x : List UInt8) (r : List (List UInt8)) : flW (x :: r) = 32 :: (x ++ flW r) := by simp [flW]
theorem flW_append (a b : List (List UInt8)) : flW (a ++ b) = flW a ++ flW b := by simp [flW]
theorem flW_one (x : List UInt8) : flW [x] = 32 :: x := by simp [flW]
theorem nlF_cons (x : List UInt8) (r : List (List UInt8)) : nlF (x :: r) = x ++ 10 :: nlF r := by simp [nlF]

theorem wordsG_run : ∀ (w l cur : List UInt8), (∀ c ∈ w, blkB c = false) → wordsG (w ++ l) cur = wordsG l (cur ++ w)
  | [], l, cur, _ => by simp
  | c :: r, l, cur, h => by
    have hc := h c (by simp)
    have ih := wordsG_run r l (cur ++ [c]) (fun x hx => h x (by simp [hx]))
    rw [List.cons_append, wordsG, hc]
    simp only [Bool.false_eq_true, if_false]
    rw [ih]
    simp
theorem wordsG_fl : ∀ (ws : List (List UInt8)) (cur : List UInt8), (∀ w ∈ ws, WordB w) → wordsG (flW ws) cur = (if cur = [] then [] else [cur]) ++ ws
  | [], cur, _ => by simp [flW, wordsG]
  | x :: r, cur, h => by
    obtain ⟨hx, hb⟩ := h x (by simp)
    have ih := wordsG_fl r x (fun w hw => h w (by simp [hw]))
    rw [flW_cons, wordsG]
    have h32 : blkB 32 = true := by decide
    rw [h32]
    simp only [if_true]
    rw [wordsG_run x _ _ hb, List.nil_append, ih, if_neg hx]
    split <;> simp
theorem wordsL_fl {ws : List (List UInt8)} (h : ∀ w ∈ ws, WordB w) : wordsL (flW ws) = ws := by
  unfold wordsL
  rw [wordsG_fl ws [] h]
  simp
theorem wordsG_words : ∀ (l cur : List UInt8), (∀ c ∈ cur, blkB c = false) → ∀ w ∈ wordsG l cur, WordB w
  | [], cur, hc, w, hw => by
    unfold wordsG at hw
    split at hw
    · cases hw
    · rename_i hne
      rw [List.mem_singleton] at hw
      subst hw
      exact ⟨hne, hc⟩
  | c :: r, cur, hc, w, hw => by
    unfold wordsG at hw
    split at hw
    · split at hw
      · exact wordsG_words r [] (fun _ h => by cases h) w hw
      · rename_i hne
        rcases List.mem_cons.1 hw with rfl | hw
        · exact ⟨hne, hc⟩
        · exact wordsG_words r [] (fun _ h => by cases h) w hw
    · rename_i hb
      refine wordsG_words r (cur ++ [c]) (fun x hx => ?_) w hw
      rcases List.mem_append.1 hx with hx | hx
      · exact hc x hx
      · rw [List.mem_singleton] at hx
        subst hx
        simpa using hb
theorem wordsL_words (l : List UInt8) : ∀ w ∈ wordsL l, WordB w := wordsG_words l [] (fun _ h => by cases h)
theorem wordsG_all (p : UInt8 → Prop) : ∀ (l cur : List UInt8), (∀ c ∈ cur, p c) → (∀ c ∈ l, p c) → ∀ w ∈ wordsG l cur, ∀ c ∈ w, p c
  | [], cur, hc, _, w, hw => by
    unfold wordsG at hw
    split at hw
    · cases hw
    · rw [List.mem_singleton] at hw
      subst hw
      exact hc
  | c :: r, cur, hc, hl, w, hw => by
    have hr : ∀ x ∈ r, p x := fun x hx => hl x (by simp [hx])
    unfold wordsG at hw
    split at hw
    · split at hw
      · exact wordsG_all p r [] (fun _ h => by cases h) hr w hw
      · rcases List.mem_cons.1 hw with rfl | hw
        · exact hc
        · exact wordsG_all p r [] (fun _ h => by cases h) hr w hw
    · refine wordsG_all p r (cur ++ [c]) (fun x hx => ?_) hr w hw
      rcases List.mem_append.1 hx with hx | hx
      · exact hc x hx
      · rw [List.mem_singleton] at hx
        subst hx
        exact hl _ (by simp)
theorem wordsL_all (p : UInt8 → Prop) {l : List UInt8} (h : ∀ c ∈ l, p c) : ∀ w ∈ wordsL l, ∀ c ∈ w, p c := wordsG_all p l [] (fun _ h => by cases h) h

/-- The lines of a fold: the line begun is init and the words cur. -/
def lns (init : List UInt8) (cur : List (List UInt8)) : List (List UInt8) → List (List UInt8)
  | [] => [init ++ flW cur]
  | x :: r => if cur ≠ [] ∧ 78 < (init ++ flW cur).length + 1 + x.length then (init ++ flW cur) :: lns [] [x] r else lns init (cur ++ [x]) r
theorem lns_fold : ∀ (ws : List (List UInt8)) (out init : List UInt8) (cur : List (List UInt8)),
    (foldS ws out (init ++ flW cur) (decide (cur = []))).1 ++ ((foldS ws out (init ++ flW cur) (decide (cur = []))).2 ++ [10]) = out ++ nlF (lns init cur ws)
  | [], out, init, cur => by simp [foldS, lns, nlF]
  | x :: r, out, init, cur => by
    by_cases h : cur ≠ [] ∧ 78 < (init ++ flW cur).length + 1 + x.length
    · rw [lns, if_pos h, foldS, if_pos ⟨by simpa using h.1, h.2⟩]
      have ih := lns_fold r (out ++ ((init ++ flW cur) ++ [10])) [] [x]
      have e : [] ++ flW [x] = [32] ++ x := by rw [flW_one]; rfl
      have e2 : decide ([x] = []) = false := by simp
      rw [e, e2] at ih
      rw [ih, nlF_cons]
      simp
    · rw [lns, if_neg h, foldS, if_neg (by rintro ⟨f1, f2⟩; exact h ⟨by simpa using f1, f2⟩)]
      have ih := lns_fold r out init (cur ++ [x])
      have e : init ++ flW (cur ++ [x]) = init ++ flW cur ++ [32] ++ x := by rw [flW_append, flW_one]; simp
      have e2 : decide (cur ++ [x] = []) = false := by simp
      rw [e, e2] at ih
      exact ih
theorem foldL_lns (name body : List UInt8) : foldL name body = nlF (lns (name ++ [58]) [] (wordsL body)) := by
  have := lns_fold (wordsL body) [] (name ++ [58]) []
  simp only [flW, List.flatMap_nil, List.append_nil, decide_true, List.nil_append] at this
  exact this

/-- What the law of the widths asks of the lines that are left: n bytes of name, the length of the line before. -/
def okL (n : Nat) : Bool → Nat → List (List UInt8) → Prop
  | _, _, [] => True
  | true, _, l :: r => (∀ c ∈ l, c ≠ 10) ∧ (78 < l.length → (wordsL (l.drop (n + 1))).length ≤ 1) ∧ okL n false l.length r
  | false, b, l :: r => (∀ c ∈ l, c ≠ 10) ∧ (78 < l.length → (wordsL l).length ≤ 1) ∧ (∃ x t, wordsL l = x :: t ∧ 78 < b + 1 + x.length) ∧ (∃ t, l = 32 :: t) ∧ okL n false l.length r
def W10 (w : List UInt8) : Prop := WordB w ∧ ∀ c ∈ w, c ≠ 10
theorem fl_10 : ∀ {ws : List (List UInt8)}, (∀ w ∈ ws, W10 w) → ∀ c ∈ flW ws, c ≠ 10
  | [], _, c, hc => by cases hc
  | x :: r, h, c, hc => by
    rw [flW_cons] at hc
    rcases List.mem_cons.1 hc with rfl | hc
    · decide
    · rcases List.mem_append.1 hc with hc | hc
      · exact (h x (by simp)).2 c hc
      · exact fl_10 (fun w hw => h w (by simp [hw])) c hc
theorem W10.word {ws : List (List UInt8)} (h : ∀ w ∈ ws, W10 w) : ∀ w ∈ ws, WordB w := fun w hw => (h w hw).1
theorem okL_rest (n : Nat) : ∀ (ws : List (List UInt8)) (y : List UInt8) (t : List (List UInt8)) (b : Nat), (∀ w ∈ ws, W10 w) → (∀ w ∈ y :: t, W10 w) → (78 < (flW (y :: t)).length → t = []) → 78 < b + 1 + y.length →
    okL n false b (lns [] (y :: t) ws)
  | [], y, t, b, _, hc, h1, h2 => by
    refine ⟨?_, ?_, ⟨y, t, ?_, h2⟩, ⟨_, flW_cons y t⟩, trivial⟩
    · exact fl_10 hc
    · intro h
      rw [List.nil_append] at h ⊢
      rw [wordsL_fl (W10.word hc), h1 h]
      simp
    · rw [List.nil_append, wordsL_fl (W10.word hc)]
  | x :: r, y, t, b, hw, hc, h1, h2 => by
    have hx := hw x (by simp)
    have hr : ∀ w ∈ r, W10 w := fun w h => hw w (by simp [h])
    rw [lns]
    split
    · rename_i h
      rw [List.nil_append]
      refine ⟨fl_10 hc, ?_, ⟨y, t, wordsL_fl (W10.word hc), h2⟩, ⟨_, flW_cons y t⟩, ?_⟩
      · intro h3
        rw [wordsL_fl (W10.word hc), h1 h3]
        simp
      · refine okL_rest n r x [] _ hr (by simpa using hx) (fun _ => rfl) ?_
        have := h.2
        rw [List.nil_append] at this
        exact this
    · rename_i h
      rw [List.cons_append]
      refine okL_rest n r y (t ++ [x]) b hr ?_ ?_ h2
      · intro w hw'
        rcases List.mem_cons.1 hw' with rfl | hw'
        · exact hc _ (by simp)
        · rcases List.mem_append.1 hw' with hw' | hw'
          · exact hc _ (by simp [hw'])
          · rw [List.mem_singleton] at hw'
            subst hw'
            exact hx
      · intro h3
        exfalso
        refine h ⟨by simp, ?_⟩
        rw [← List.cons_append, flW_append, flW_one, List.length_append, List.length_cons] at h3
        rw [List.nil_append]
        omega
theorem okL_first (n : Nat) (init : List UInt8) (hi : init.length = n + 1) (h10 : ∀ c ∈ init, c ≠ 10) : ∀ (ws cur : List (List UInt8)) (b : Nat), (∀ w ∈ ws, W10 w) → (∀ w ∈ cur, W10 w) → (78 < (init ++ flW cur).length → cur.length ≤ 1) →
    okL n true b (lns init cur ws)
  | [], cur, b, _, hc, h1 => by
    refine ⟨?_, ?_, trivial⟩
    · intro c hc'
      rcases List.mem_append.1 hc' with hc' | hc'
      · exact h10 c hc'
      · exact fl_10 hc c hc'
    · intro h
      rw [List.drop_append_of_le_length (by omega), List.drop_of_length_le (by omega), List.nil_append, wordsL_fl (W10.word hc)]
      exact h1 h
  | x :: r, cur, b, hw, hc, h1 => by
    have hx := hw x (by simp)
    have hr : ∀ w ∈ r, W10 w := fun w h => hw w (by simp [h])
    rw [lns]
    split
    · rename_i h
      refine ⟨?_, ?_, ?_⟩
      · intro c hc'
        rcases List.mem_append.1 hc' with hc' | hc'
        · exact h10 c hc'
        · exact fl_10 hc c hc'
      · intro h3
        rw [List.drop_append_of_le_length (by omega), List.drop_of_length_le (by omega), List.nil_append, wordsL_fl (W10.word hc)]
        exact h1 h3
      · exact okL_rest n r x [] _ hr (by simpa using hx) (fun _ => rfl) h.2
    · rename_i h
      refine okL_first n init hi h10 r (cur ++ [x]) b hr ?_ ?_
      · intro w hw'
        rcases List.mem_append.1 hw' with hw' | hw'
        · exact hc _ hw'
        · rw [List.mem_singleton] at hw'
          subst hw'
          exact hx
      · intro h3
        cases cur with
        | nil => simp
        | cons y t =>
          exfalso
          refine h ⟨by simp, ?_⟩
          rw [flW_append, flW_one, ← List.append_assoc, List.length_append, List.length_cons] at h3
          omega

theorem printI_neg {l : List UInt8} (h : ¬ 0 ≤ printI l) : ∀ c ∈ l, prtB c = true := by
  unfold printI at h
  split at h
  · rename_i he
    intro c hc
    have h1 : (l.takeWhile prtB).length = l.length := by simpa [spanL] using he
    have h2 : l.takeWhile prtB = l := (List.takeWhile_prefix prtB).eq_of_length h1
    rw [← h2] at hc
    exact mem_tw l c hc
  · omega
theorem prt_10 {c : UInt8} (h : prtB c = true) : c ≠ 10 := by rintro rfl; exact absurd h (by decide)
theorem valid_all {l : List UInt8} (h : validB l = true) : ∀ c ∈ l, nameB c = true := by
  cases l with
  | nil => intro c hc; cases hc
  | cons x r =>
    rw [validB_cons] at h
    simp only [Bool.and_eq_true] at h
    exact fun c hc => List.all_eq_true.1 h.2 c hc
theorem name_10 {c : UInt8} (h : nameB c = true) : c ≠ 10 := by rintro rfl; exact absurd h (by decide)
theorem check_zero {n b : List UInt8} (h : checkI n b = 0) : validB n = true ∧ (¬ 0 ≤ printI b) ∧ joinW (wordsL b) = b ∧ b.length ≤ 8192 ∧ (wordsL b).any longB = false := by
  unfold checkI at h
  split at h
  · cases h
  · rename_i h1
    split at h
    · cases h
    · rename_i h2
      split at h
      · cases h
      · rename_i h3
        split at h
        · cases h
        · rename_i h4
          split at h
          · cases h
          · rename_i h5
            exact ⟨by simpa using h1, h2, by simpa using h3, by omega, by simpa using h5⟩

/-- The lines of a valid field. -/
theorem fold_ok {n b : List UInt8} (h : checkI n b = 0) : ∃ ls, foldL n b = nlF ls ∧ okL n.length true 0 ls := by
  obtain ⟨h1, h2, h3, h4, h5⟩ := check_zero h
  refine ⟨_, foldL_lns n b, okL_first n.length (n ++ [58]) (by simp) ?_ _ _ _ ?_ (fun _ h => by cases h) (fun _ => Nat.zero_le _)⟩
  · intro c hc
    rcases List.mem_append.1 hc with hc | hc
    · exact name_10 (valid_all h1 c hc)
    · rw [List.mem_singleton] at hc
      subst hc
      decide
  · intro w hw
    exact ⟨wordsL_words b w hw, wordsL_all (fun c => c ≠ 10) (fun c hc => prt_10 (printI_neg h2 c hc)) w hw⟩
end Go.Proofs.Ytknamddpflkifaa
