/- Plain laws: what is printed parses back.
   Conditions: as each law states them. -/
import Derived.Test.YtknamddpflkifaaG6
namespace Go.Proofs.Ytknamddpflkifaa
open Go.RowKit Go.Lib

theorem joinTail_fl : ∀ (r : List (List UInt8)), Lib.joinTail [32] r = flW r
  | [] => rfl
  | x :: r => by
    have := joinTail_fl r
    rw [flW_cons, ← this]
    rfl
theorem joinW_cons (x : List UInt8) (r : List (List UInt8)) : joinW (x :: r) = x ++ flW r := by
  rw [← joinTail_fl]
  exact Lib.join_cons x r [32]
theorem wordsL_join {ws : List (List UInt8)} (h : ∀ w ∈ ws, WordB w) : wordsL (joinW ws) = ws := by
  cases ws with
  | nil => rfl
  | cons x r =>
    obtain ⟨hx, hb⟩ := h x (by simp)
    rw [joinW_cons]
    unfold wordsL
    rw [wordsG_run x _ _ hb, List.nil_append, wordsG_fl r x (fun w hw => h w (by simp [hw])), if_neg hx]
    rfl
theorem flW_len : ∀ (r : List (List UInt8)), (flW r).length = lensW r + r.length
  | [] => rfl
  | x :: r => by
    have := flW_len r
    have e : lensW (x :: r) = x.length + lensW r := by simp [lensW]
    rw [flW_cons, List.length_cons, List.length_append, this, e, List.length_cons]
    omega
theorem joinW_mono (a b : List (List UInt8)) : (joinW a).length ≤ (joinW (a ++ b)).length := by
  cases a with
  | nil => exact Nat.zero_le _
  | cons x r =>
    rw [List.cons_append, joinW_cons, joinW_cons, flW_append]
    simp

/-- A word that may stand in a printed field. -/
structure WP (w : List UInt8) : Prop where
  word : WordB w
  prt : ∀ c ∈ w, prtB c = true
  short : longB w = false
theorem longP_none : ∀ (l : List UInt8) (ws : List (List UInt8)) (a : Nat), (∀ w ∈ ws, longB w = false) → longP l ws a = none
  | _, [], _, _ => rfl
  | l, x :: r, a, h => by
    rw [longP, if_neg (by rw [h x (by simp)]; decide)]
    exact longP_none l r _ (fun w hw => h w (by simp [hw]))

theorem line_at {pre L post : List UInt8} (h10 : ∀ c ∈ L, nlB c = true) (hl : L.length ≤ 998) (hok : ∀ c ∈ L, okB c = true) : lineS (pre ++ (L ++ 10 :: post)) pre.length = (L, (0, 0)) := by
  have hd : (pre ++ (L ++ 10 :: post)).drop pre.length = L ++ 10 :: post := by simp
  have h10' : nlB 10 = false := by decide
  have hs : spanL nlB ((pre ++ (L ++ 10 :: post)).drop pre.length) 0 = L.length := by
    unfold spanL
    rw [hd, List.drop_zero, List.takeWhile_append_of_pos h10, List.takeWhile_cons, h10']
    simp
  have ht : ((pre ++ (L ++ 10 :: post)).drop pre.length).take L.length = L := by rw [hd]; simp
  have := lineS_ok hs (by rw [hd]; simp) (by omega) (by
    rw [ht]
    unfold spanL
    have := List.takeWhile_append_of_pos (l₂ := []) hok
    rw [List.append_nil, List.takeWhile_nil, List.append_nil] at this
    rw [List.drop_zero, this, Nat.zero_add])
  rw [this, ht]

/-- From one state of the parser to another. -/
def Steps (text : List UInt8) (a : Nat) (fs : List (List UInt8 × List UInt8)) (a' : Nat) (fs' : List (List UInt8 × List UInt8)) : Prop :=
  ∀ f, text.length < a + f → ∃ f', text.length < a' + f' ∧ parseL text f a fs = parseL text f' a' fs'
theorem Steps.refl (text : List UInt8) (a : Nat) (fs : List (List UInt8 × List UInt8)) : Steps text a fs a fs := fun f h => ⟨f, h, rfl⟩
theorem Steps.trans {text : List UInt8} {a a' a'' : Nat} {fs fs' fs'' : List (List UInt8 × List UInt8)} (h : Steps text a fs a' fs') (k : Steps text a' fs' a'' fs'') : Steps text a fs a'' fs'' := fun f hf => by
  obtain ⟨f', h1, h2⟩ := h f hf
  obtain ⟨f'', h3, h4⟩ := k f' h1
  exact ⟨f'', h3, h2.trans h4⟩
theorem Steps.one {text : List UInt8} {a a' : Nat} {fs fs' : List (List UInt8 × List UInt8)} (ha : a < text.length) (h : oneS text a fs = (a', fs', (0, 0))) (hlt : a < a') : Steps text a fs a' fs' := fun f hf => by
  obtain ⟨f0, rfl⟩ : ∃ f0, f = f0 + 1 := ⟨f - 1, by omega⟩
  refine ⟨f0, by omega, ?_⟩
  rw [parseL, if_pos ha, h]
  rfl

theorem one_first {text : List UInt8} {a : Nat} {fs : List (List UInt8 × List UInt8)} {n : List UInt8} {cur : List (List UInt8)} (h : lineS text a = (n ++ [58] ++ flW cur, (0, 0))) (hn : validB n = true) (h58 : ∀ c ∈ n, neB 58 c = true) (hb : contB (n ++ [58] ++ flW cur) = false)
    (hf : fs.length < 64) (hw : ∀ w ∈ cur, WP w) (hl : (joinW cur).length ≤ 8192) :
    oneS text a fs = (a + ((n ++ [58] ++ flW cur).length + 1), fs ++ [(n, joinW cur)], (0, 0)) := by
  have hs : spanL (neB 58) (n ++ [58] ++ flW cur) 0 = n.length := by
    have h1 : neB 58 58 = false := by decide
    unfold spanL
    rw [List.drop_zero, List.append_assoc, List.takeWhile_append_of_pos h58, List.singleton_append, List.takeWhile_cons, h1]
    simp
  have ht : (n ++ [58] ++ flW cur).take n.length = n := by rw [List.append_assoc]; simp
  have hdr : (n ++ [58] ++ flW cur).drop (n.length + 1) = flW cur := by
    rw [← List.length_singleton (a := (58 : UInt8)), ← List.length_append]
    exact List.drop_left
  have hww := wordsL_fl (ws := cur) (fun w hw' => (hw w hw').word)
  have hb0 : bodyS a [] (n ++ [58] ++ flW cur) (n.length + 1) = (joinW cur, (0, 0)) := by
    unfold bodyS
    rw [hdr, hww, longP_none _ _ _ (fun w hw' => (hw w hw').short)]
    have e : wordsL [] = [] := rfl
    rw [e, List.nil_append]
    simp only
    rw [if_neg (by omega)]
  unfold oneS
  rw [h]
  simp only [hs, ht, hb0, hb]
  rw [if_neg (by simp), if_neg (by simp), if_neg (by simp), if_neg (by rw [hn]; decide), if_neg (by omega)]
theorem one_more {text : List UInt8} {a : Nat} {fs : List (List UInt8 × List UInt8)} {n : List UInt8} {cur dn : List (List UInt8)} (h : lineS text a = (flW cur, (0, 0))) (hc : cur ≠ []) (hw : ∀ w ∈ cur, WP w) (hd : ∀ w ∈ dn, WordB w)
    (hl : (joinW (dn ++ cur)).length ≤ 8192) :
    oneS text a (fs ++ [(n, joinW dn)]) = (a + ((flW cur).length + 1), fs ++ [(n, joinW (dn ++ cur))], (0, 0)) := by
  have hb : contB (flW cur) = true := by
    cases cur with
    | nil => exact absurd rfl hc
    | cons x r => rw [flW_cons]; rfl
  have hww := wordsL_fl (ws := cur) (fun w hw' => (hw w hw').word)
  have hb0 : bodyS a (joinW dn) (flW cur) 0 = (joinW (dn ++ cur), (0, 0)) := by
    unfold bodyS
    rw [List.drop_zero, hww, longP_none _ _ _ (fun w hw' => (hw w hw').short), wordsL_join hd]
    simp only
    rw [if_neg (by omega)]
  unfold oneS
  rw [h]
  simp only [hb]
  rw [if_neg (by simp), if_pos trivial, List.getLast?_concat]
  simp only [hb0, List.dropLast_concat]

theorem fl_nl {ws : List (List UInt8)} (h : ∀ w ∈ ws, WP w) : ∀ c ∈ flW ws, prtB c = true := by
  intro c hc
  obtain ⟨w, hw, hc⟩ := List.mem_flatMap.1 hc
  rcases List.mem_cons.1 hc with rfl | hc
  · decide
  · exact (h w hw).prt c hc
theorem prt_nl {c : UInt8} (h : prtB c = true) : nlB c = true := by
  unfold nlB
  have := prt_10 h
  simp
  intro e
  exact this (UInt8.toNat.inj e)
theorem prt_ok {c : UInt8} (h : prtB c = true) : okB c = true := by
  unfold prtB at h
  unfold okB blkB
  simp only [Bool.or_eq_true, decide_eq_true_eq] at h ⊢
  rcases h with h | h
  · exact .inr (.inl h)
  · exact .inl h
theorem fl_len {k : Nat} {cur : List (List UInt8)} (hw : ∀ w ∈ cur, WP w) (hk : k ≤ 41) (h : 78 < k + (flW cur).length → cur.length ≤ 1) : k + (flW cur).length ≤ 998 := by
  by_cases h78 : 78 < k + (flW cur).length
  · have := h h78
    match cur, this with
    | [], _ => simp [flW] at h78 ⊢; omega
    | [x], _ =>
      have := (hw x (by simp)).short
      unfold longB at this
      have h9 : ¬ 900 < x.length := by simpa using this
      rw [flW_one]
      simp
      omega
  · omega

theorem rest_steps (text : List UInt8) (fs0 : List (List UInt8 × List UInt8)) (n : List UInt8) : ∀ (ws cur dn : List (List UInt8)) (pre post : List UInt8), text = pre ++ (nlF (lns [] cur ws) ++ post) → cur ≠ [] → (∀ w ∈ cur, WP w) → (∀ w ∈ ws, WP w) → (∀ w ∈ dn, WordB w) →
    (78 < (flW cur).length → cur.length ≤ 1) → (joinW (dn ++ (cur ++ ws))).length ≤ 8192 → Steps text pre.length (fs0 ++ [(n, joinW dn)]) (pre.length + (nlF (lns [] cur ws)).length) (fs0 ++ [(n, joinW (dn ++ (cur ++ ws)))])
  | [], cur, dn, pre, post, ht, hc, hw, _, hd, h78, hl => by
    have e : nlF (lns [] cur []) = flW cur ++ [10] := by simp [lns, nlF]
    rw [e] at ht ⊢
    rw [List.append_nil] at hl ⊢
    have ht' : text = pre ++ (flW cur ++ 10 :: post) := by rw [ht]; simp
    have h1 := line_at (pre := pre) (post := post) (fun c hc => prt_nl (fl_nl hw c hc)) (by have := fl_len (k := 0) hw (by omega) (by simpa using h78); omega) (fun c hc => prt_ok (fl_nl hw c hc))
    rw [← ht'] at h1
    have h2 := one_more (fs := fs0) (n := n) h1 hc hw hd hl
    have e2 : pre.length + (flW cur ++ [10]).length = pre.length + ((flW cur).length + 1) := by simp
    rw [e2]
    exact Steps.one (by rw [ht']; simp; omega) h2 (by omega)
  | x :: r, cur, dn, pre, post, ht, hc, hw, hws, hd, h78, hl => by
    have hx := hws x (by simp)
    have hr : ∀ w ∈ r, WP w := fun w h => hws w (by simp [h])
    rw [lns] at ht ⊢
    split at ht
    · rename_i h
      rw [if_pos h, List.nil_append, nlF_cons]
      rw [List.nil_append, nlF_cons] at ht
      have ht' : text = pre ++ (flW cur ++ 10 :: (nlF (lns [] [x] r) ++ post)) := by rw [ht]; simp
      have h1 := line_at (pre := pre) (post := nlF (lns [] [x] r) ++ post) (fun c hc => prt_nl (fl_nl hw c hc)) (by have := fl_len (k := 0) hw (by omega) (by simpa using h78); omega) (fun c hc => prt_ok (fl_nl hw c hc))
      rw [← ht'] at h1
      have hl1 : (joinW (dn ++ cur)).length ≤ 8192 := by
        have := joinW_mono (dn ++ cur) (x :: r)
        rw [List.append_assoc] at this
        omega
      have h2 := one_more (fs := fs0) (n := n) h1 hc hw hd hl1
      have hs := Steps.one (by rw [ht']; simp; omega) h2 (by omega)
      have ih := rest_steps text fs0 n r [x] (dn ++ cur) (pre ++ flW cur ++ [10]) post (by rw [ht']; simp) (by simp) (by simpa using hx) hr
        (by intro w hw'; rcases List.mem_append.1 hw' with hw' | hw'; exact hd w hw'; exact (hw w hw').word) (fun _ => by simp) (by simpa using hl)
      have e1 : (pre ++ flW cur ++ [10]).length = pre.length + ((flW cur).length + 1) := by simp [Nat.add_assoc]
      rw [e1] at ih
      have e2 : pre.length + (flW cur ++ 10 :: nlF (lns [] [x] r)).length = pre.length + ((flW cur).length + 1) + (nlF (lns [] [x] r)).length := by simp; omega
      have e3 : dn ++ (cur ++ x :: r) = dn ++ cur ++ ([x] ++ r) := by simp
      rw [e2, e3]
      exact hs.trans ih
    · rename_i h
      rw [if_neg h]
      have ih := rest_steps text fs0 n r (cur ++ [x]) dn pre post ht (by simp) (by
        intro w hw'
        rcases List.mem_append.1 hw' with hw' | hw'
        · exact hw w hw'
        · rw [List.mem_singleton] at hw'
          subst hw'
          exact hx) hr hd (by
        intro h3
        exfalso
        refine h ⟨hc, ?_⟩
        rw [flW_append, flW_one, List.length_append, List.length_cons] at h3
        rw [List.nil_append]
        omega) (by simpa using hl)
      have e3 : cur ++ x :: r = cur ++ [x] ++ r := by simp
      rw [e3]
      exact ih

theorem first_steps (text : List UInt8) (fs0 : List (List UInt8 × List UInt8)) (hf : fs0.length < 64) (n : List UInt8) (hn : validB n = true) (hn40 : n.length ≤ 40) (h58 : ∀ c ∈ n, neB 58 c = true) (hn1 : ∀ c ∈ n, prtB c = true) (hcb : ∀ r, contB (n ++ [58] ++ r) = false) :
    ∀ (ws cur : List (List UInt8)) (pre post : List UInt8), text = pre ++ (nlF (lns (n ++ [58]) cur ws) ++ post) → (∀ w ∈ cur, WP w) → (∀ w ∈ ws, WP w) →
    (78 < (n ++ [58] ++ flW cur).length → cur.length ≤ 1) → (joinW (cur ++ ws)).length ≤ 8192 → Steps text pre.length fs0 (pre.length + (nlF (lns (n ++ [58]) cur ws)).length) (fs0 ++ [(n, joinW (cur ++ ws))])
  | [], cur, pre, post, ht, hw, _, h78, hl => by
    have e : nlF (lns (n ++ [58]) cur []) = n ++ [58] ++ flW cur ++ [10] := by simp [lns, nlF]
    rw [e] at ht ⊢
    rw [List.append_nil] at hl ⊢
    have ht' : text = pre ++ (n ++ [58] ++ flW cur ++ 10 :: post) := by rw [ht]; simp
    have hp : ∀ c ∈ n ++ [58] ++ flW cur, prtB c = true := by
      intro c hc
      rcases List.mem_append.1 hc with hc | hc
      · rcases List.mem_append.1 hc with hc | hc
        · exact hn1 c hc
        · rw [List.mem_singleton] at hc; subst hc; decide
      · exact fl_nl hw c hc
    have h1 := line_at (pre := pre) (post := post) (fun c hc => prt_nl (hp c hc)) (by have := fl_len (k := (n ++ [58]).length) hw (by simp; omega) (by rw [← List.length_append]; exact h78); rw [List.length_append]; omega) (fun c hc => prt_ok (hp c hc))
    rw [← ht'] at h1
    have h2 := one_first h1 hn h58 (hcb _) hf hw hl
    have e2 : pre.length + (n ++ [58] ++ flW cur ++ [10]).length = pre.length + ((n ++ [58] ++ flW cur).length + 1) := by rw [List.length_append]; rfl
    rw [e2]
    exact Steps.one (by rw [ht']; simp; omega) h2 (by omega)
  | x :: r, cur, pre, post, ht, hw, hws, h78, hl => by
    have hx := hws x (by simp)
    have hr : ∀ w ∈ r, WP w := fun w h => hws w (by simp [h])
    rw [lns] at ht ⊢
    split at ht
    · rename_i h
      rw [if_pos h, nlF_cons]
      rw [nlF_cons] at ht
      have hp : ∀ c ∈ n ++ [58] ++ flW cur, prtB c = true := by
        intro c hc
        rcases List.mem_append.1 hc with hc | hc
        · rcases List.mem_append.1 hc with hc | hc
          · exact hn1 c hc
          · rw [List.mem_singleton] at hc; subst hc; decide
        · exact fl_nl hw c hc
      have ht' : text = pre ++ (n ++ [58] ++ flW cur ++ 10 :: (nlF (lns [] [x] r) ++ post)) := by rw [ht]; simp
      have h1 := line_at (pre := pre) (post := nlF (lns [] [x] r) ++ post) (fun c hc => prt_nl (hp c hc)) (by have := fl_len (k := (n ++ [58]).length) hw (by simp; omega) (by rw [← List.length_append]; exact h78); rw [List.length_append]; omega) (fun c hc => prt_ok (hp c hc))
      rw [← ht'] at h1
      have hl1 : (joinW cur).length ≤ 8192 := by
        have := joinW_mono cur (x :: r)
        omega
      have h2 := one_first h1 hn h58 (hcb _) hf hw hl1
      have hs := Steps.one (by rw [ht']; simp; omega) h2 (by omega)
      have ih := rest_steps text fs0 n r [x] cur (pre ++ (n ++ [58] ++ flW cur) ++ [10]) post (by rw [ht']; simp) (by simp) (by simpa using hx) hr
        (fun w hw' => (hw w hw').word) (fun _ => by simp) (by simpa using hl)
      have e1 : (pre ++ (n ++ [58] ++ flW cur) ++ [10]).length = pre.length + ((n ++ [58] ++ flW cur).length + 1) := by rw [List.length_append, List.length_append]; simp; omega
      rw [e1] at ih
      have e2 : pre.length + (n ++ [58] ++ flW cur ++ 10 :: nlF (lns [] [x] r)).length = pre.length + ((n ++ [58] ++ flW cur).length + 1) + (nlF (lns [] [x] r)).length := by simp; omega
      have e3 : cur ++ x :: r = cur ++ ([x] ++ r) := by simp
      rw [e2, e3]
      exact hs.trans ih
    · rename_i h
      rw [if_neg h]
      have ih := first_steps text fs0 hf n hn hn40 h58 hn1 hcb r (cur ++ [x]) pre post ht (by
        intro w hw'
        rcases List.mem_append.1 hw' with hw' | hw'
        · exact hw w hw'
        · rw [List.mem_singleton] at hw'
          subst hw'
          exact hx) hr (by
        intro h3
        cases cur with
        | nil => simp
        | cons y t =>
          exfalso
          refine h ⟨by simp, ?_⟩
          rw [flW_append, flW_one, ← List.append_assoc, List.length_append, List.length_cons] at h3
          omega) (by simpa using hl)
      have e3 : cur ++ x :: r = cur ++ [x] ++ r := by simp
      rw [e3]
      exact ih

theorem name_58 {c : UInt8} (h : nameB c = true) : neB 58 c = true := by
  unfold neB
  simp only [Bool.not_eq_true', decide_eq_false_iff_not]
  intro e
  have : c = 58 := UInt8.toNat.inj e
  subst this
  exact absurd h (by decide)
theorem name_prt {c : UInt8} (h : nameB c = true) : prtB c = true := by
  unfold nameB letB lowB uppB digB at h
  unfold prtB visB
  simp only [Bool.or_eq_true, Bool.and_eq_true, decide_eq_true_eq] at h ⊢
  omega
theorem valid_cons {l : List UInt8} (h : validB l = true) : ∃ c r, l = c :: r ∧ letB c = true ∧ l.length ≤ 40 := by
  cases l with
  | nil => exact absurd h (by decide)
  | cons x r =>
    rw [validB_cons] at h
    simp only [Bool.and_eq_true, decide_eq_true_eq] at h
    exact ⟨x, r, rfl, h.1.2, h.1.1⟩
theorem let_blk {c : UInt8} (h : letB c = true) : blkB c = false := by
  unfold letB lowB uppB at h
  unfold blkB
  simp only [Bool.or_eq_true, Bool.and_eq_true, decide_eq_true_eq] at h
  simp only [Bool.or_eq_false_iff, decide_eq_false_iff_not]
  omega
theorem words_wp {b : List UInt8} (h1 : ¬ 0 ≤ printI b) (h2 : (wordsL b).any longB = false) : ∀ w ∈ wordsL b, WP w := fun w hw =>
  ⟨wordsL_words b w hw, wordsL_all (fun c => prtB c = true) (printI_neg h1) w hw, by
    have := List.any_eq_false.1 h2 w hw
    simpa using this⟩

/-- One printed field is parsed back. -/
theorem fold_steps {text pre post n b : List UInt8} {fs : List (List UInt8 × List UInt8)} (h : checkI n b = 0) (ht : text = pre ++ (foldL n b ++ post)) (hf : fs.length < 64) :
    Steps text pre.length fs (pre.length + (foldL n b).length) (fs ++ [(n, b)]) := by
  obtain ⟨h1, h2, h3, h4, h5⟩ := check_zero h
  obtain ⟨c, r, hc, hl, h40⟩ := valid_cons h1
  rw [foldL_lns] at ht ⊢
  have := first_steps text fs hf n h1 h40 (fun c hc => name_58 (valid_all h1 c hc)) (fun c hc => name_prt (valid_all h1 c hc)) (fun r' => by rw [hc]; exact let_blk hl) (wordsL b) [] pre post ht (fun _ h => by cases h) (words_wp h2 h5) (fun _ => Nat.zero_le _) (by rw [List.nil_append, h3]; exact h4)
  rw [List.nil_append, h3] at this
  exact this
theorem print_steps {text : List UInt8} : ∀ (fs gs : List (List UInt8 × List UInt8)) (pre : List UInt8), text = pre ++ fs.flatMap (fun f => foldL f.1 f.2) → (∀ f ∈ fs, checkI f.1 f.2 = 0) → gs.length + fs.length ≤ 64 → Steps text pre.length gs text.length (gs ++ fs)
  | [], gs, pre, ht, _, _ => by
    rw [List.flatMap_nil, List.append_nil] at ht
    rw [ht, List.append_nil]
    exact Steps.refl _ _ _
  | (n, b) :: r, gs, pre, ht, hc, hl => by
    rw [List.flatMap_cons] at ht
    have h1 := fold_steps (fs := gs) (hc (n, b) (by simp)) ht (by simp at hl; omega)
    have ih := print_steps (text := text) r (gs ++ [(n, b)]) (pre ++ foldL n b) (by rw [ht]; simp) (fun f hf => hc f (by simp [hf])) (by simp at hl ⊢; omega)
    rw [List.length_append, List.append_assoc] at ih
    exact h1.trans ih
theorem printL_ok : ∀ (fs : List (List UInt8 × List UInt8)) (out : List UInt8), (printL fs out).2 = 0 → (∀ f ∈ fs, checkI f.1 f.2 = 0) ∧ (printL fs out).1 = out ++ fs.flatMap (fun f => foldL f.1 f.2) ∧ (printL fs out).1.length ≤ 65536
  | [], out, h => by
    unfold printL at h ⊢
    split at h
    · cases h
    · rename_i h6
      rw [if_neg h6]
      exact ⟨fun _ hf => (by cases hf), by simp, by show out.length ≤ 65536; omega⟩
  | f :: r, out, h => by
    unfold printL at h ⊢
    split at h
    · rename_i hc
      exact absurd h hc
    · rename_i hc
      rw [if_neg hc]
      obtain ⟨h1, h2, h3⟩ := printL_ok r _ h
      refine ⟨fun g hg => ?_, by rw [h2]; simp, h3⟩
      rcases List.mem_cons.1 hg with rfl | hg
      · omega
      · exact h1 g hg
/-- What is printed parses back. -/
theorem print_parse {fs : List (List UInt8 × List UInt8)} (h : (printS fs).2 = 0) : parseS (printS fs).1 = (fs, (0, 0)) := by
  unfold printS at h ⊢
  split at h
  · cases h
  · rename_i h64
    rw [if_neg h64]
    obtain ⟨h1, h2, h3⟩ := printL_ok fs [] h
    rw [List.nil_append] at h2
    unfold parseS
    rw [if_neg (by omega)]
    have hs := print_steps fs [] [] (text := (printL fs []).1) (by rw [h2]; rfl) h1 (by simp; omega)
    obtain ⟨f', hf, he⟩ := hs ((printL fs []).1.length + 1) (by simp)
    rw [List.length_nil, List.nil_append] at he
    rw [he]
    obtain ⟨f0, rfl⟩ : ∃ f0, f' = f0 + 1 := ⟨f' - 1, by omega⟩
    rw [parseL, if_neg (by omega)]
end Go.Proofs.Ytknamddpflkifaa
