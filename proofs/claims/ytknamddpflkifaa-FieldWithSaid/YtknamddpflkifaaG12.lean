/- The document's add over this translation: the words of a part of a text behind a body.
   Conditions: texts of at most 1000000 bytes. -/
import Derived.Test.YtknamddpflkifaaG7
import Derived.Test.YtknamddpflkifaaG3
namespace Go.Proofs.Ytknamddpflkifaa
open Go.RowKit Go.Lib

/-! ### plain -/
theorem wordsG_skip {T : List UInt8} {i : Nat} (h : i < T.length) (hb : blkB T[i] = true) : wordsG (T.drop i) [] = wordsG (T.drop (i + 1)) [] := by
  rw [List.drop_eq_getElem_cons h]
  simp [wordsG, hb]
theorem longP_skip {T : List UInt8} {i : Nat} (h : i < T.length) (hb : blkB T[i] = true) : ∀ (ws : List (List UInt8)), longP T ws i = longP T ws (i + 1)
  | [] => rfl
  | x :: r => by rw [longP, longP, spanL_step h hb]
theorem longP_word {T : List UInt8} {i : Nat} {x : List UInt8} {r : List (List UInt8)} (h : i < T.length) (hb : blkB T[i] = false) : longP T (x :: r) i = if longB x = true then some i else longP T r (i + x.length) := by
  rw [longP, spanL_stop h hb]
theorem joinW_snoc {ws : List (List UInt8)} (x : List UInt8) (h : ws ≠ []) : joinW (ws ++ [x]) = joinW ws ++ ([32] ++ x) := by
  cases ws with
  | nil => exact absurd rfl h
  | cons y r =>
    rw [List.cons_append, joinW_cons, joinW_cons, flW_append, flW_one]
    simp
theorem joinW_empty {ws : List (List UInt8)} (h : ∀ w ∈ ws, WordB w) (he : joinW ws = []) : ws = [] := by
  cases ws with
  | nil => rfl
  | cons y r =>
    rw [joinW_cons] at he
    exact absurd (List.append_eq_nil_iff.1 he).1 (h y (by simp)).1
theorem empty_toList : ∀ (B : List UInt8), (bsOf B).toList.isEmpty = decide (B = []) := by
  intro B
  rw [ByteArray.toList_eq, bsOf_data]
  cases B <;> simp

/-- What add hands back. -/
def AddPost (T : List UInt8) (ws : List (List UInt8)) (fr : Nat) (w : World) (e : Ending) (w' : World) : Prop :=
  w = w' ∧ ∃ (b : List UInt8) (bad : Int), e = .returned (.tuple #[strV b, .int .i64 bad]) ∧
    ((∃ p : Nat, longP T (wordsG (T.drop fr) []) fr = some p ∧ bad = p) ∨ (longP T (wordsG (T.drop fr) []) fr = none ∧ bad = -1 ∧ b = joinW (ws ++ wordsG (T.drop fr) [])))
/-- What holds at the head of a round of add. -/
def AddRel (T : List UInt8) (ws : List (List UInt8)) (fr : Nat) (v0 v10 : Value) : Prop :=
  ∃ (i : Nat) (dn : List (List UInt8)), v0 = strV (joinW (ws ++ dn)) ∧ v10 = .int .i64 i ∧ i ≤ T.length ∧ wordsG (T.drop fr) [] = dn ++ wordsG (T.drop i) [] ∧
    longP T (wordsG (T.drop fr) []) fr = longP T (wordsG (T.drop i) []) i ∧ (∀ x ∈ dn, WordB x) ∧ (joinW (ws ++ dn)).length ≤ (joinW ws).length + 2 * i

set_option maxRecDepth 10000 in
set_option maxHeartbeats 2000000 in
theorem radd_any {ws : List (List UInt8)} (s : ByteArray) (fr to : Nat) (w : World) (hws : ∀ x ∈ ws, WordB x) (hfr : fr ≤ to) (hto : to ≤ s.size) (hs : s.size ≤ 1000000) (hb : (joinW ws).length ≤ 1000000) :
    Calls Try.prog 55 #[strV (joinW ws), .string s, .int .i64 fr, .int .i64 to] w (AddPost (s.data.toList.take to) ws fr w) := by
  obtain ⟨T, hT⟩ : ∃ T, s.data.toList.take to = T := ⟨_, rfl⟩
  have hTl : T.length = to := by rw [← hT, List.length_take]; simp; omega
  have hTb : ∀ i (h : i < T.length) (h' : i < s.size), T[i] = s[i] := by
    intro i h h'
    subst hT
    rw [List.getElem_take]
    rfl
  have hTx : ∀ i k, i ≤ k → k ≤ to → Value.string (s.extract i k) = strV ((T.drop i).take (k - i)) := by
    intro i k h1 h2
    rw [strV_extract, ← hT, List.drop_take, List.take_take, Nat.min_eq_left (by omega)]
  rw [hT]
  have HW := Lib.hid hws
  have HTL := Lib.hid hTl
  have HTB := Lib.hid hTb
  have HTX := Lib.hid hTx
  clear hws hT hTl hTb hTx
  have ha0 : Hid (AddRel T ws fr (strV (joinW ws)) (.int .i64 fr)) := Lib.hid ⟨fr, [], by rw [List.append_nil], rfl, by rw [HTL.out]; exact hfr, rfl, rfl, fun _ h => (by cases h), by rw [List.append_nil]; omega⟩
  go_enter Try.func55, Try.ntmps55
  go_wp2
  go_loop [0, 10, 11] (fun a v _ => AddRel T ws fr a v) (fun _ v _ => to - (RowKit.intOf v).toNat)
  case atStart => exact ha0.out
  case round =>
    obtain ⟨i, dn, rfl, rfl, hi, hwd, hlp, hdn, hln⟩ := hrel
    rw [HTL.out] at hi
    obtain ⟨B, hB⟩ : ∃ B, joinW (ws ++ dn) = B := ⟨_, rfl⟩
    rw [hB] at hln ⊢
    have HBB := Lib.hid hB
    have HWD := Lib.hid hwd
    have HLP := Lib.hid hlp
    have HDN := Lib.hid hdn
    clear hB hwd hlp hdn
    unfold strV
    by_cases hlt : i < to
    · have hiT : i < T.length := by rw [HTL.out]; exact hlt
      have hsb := HTB.out i hiT (by omega)
      cases hbl : blkB s[i]
      · have HB1 : Hid (blkB T[i] = false) := Lib.hid (by rw [hsb]; exact hbl)
        have HB2 := Lib.hid hbl
        clear hsb hbl
        go_wp2_with (go_at_call 51; refine (rblank_any _ w).mono ?_; rintro e w' ⟨rfl, rfl⟩; simp only [HB2.out])
        go_loop [11] (fun v => ∃ k : Nat, i ≤ k ∧ k ≤ to ∧ v = .int .i64 k ∧ Hid (spanL nblkB T i = spanL nblkB T k)) (fun v => to - (RowKit.intOf v).toNat)
        case atStart => exact ⟨i, Nat.le_refl _, hi, rfl, Lib.hid rfl⟩
        case round =>
          obtain ⟨k, hik, hk, rfl, HS⟩ := hrel
          -- the end of the word
          have hend : Hid (spanL nblkB T k = k → i < k ∧ Value.string (s.extract i k) = strV ((T.drop i).take (k - i)) ∧ ((T.drop i).take (k - i)).length = k - i ∧ wordsG (T.drop i) [] = ((T.drop i).take (k - i)) :: wordsG (T.drop k) []) := Lib.hid fun h => by
            have h1 := words_word hiT HB1.out
            have h2 := span_gt hiT HB1.out
            rw [HS.out, h] at h1 h2
            exact ⟨h2, HTX.out i k hik hk, by rw [List.length_take, List.length_drop, HTL.out]; omega, h1⟩
          by_cases hgo : ∃ h : k < s.size, k < to ∧ blkB s[k] = false
          · obtain ⟨hks, hkt, hbk⟩ := hgo
            have HBK := Lib.hid hbk
            have HS2 : Hid (spanL nblkB T i = spanL nblkB T (k + 1)) := Lib.hid (by
              rw [HS.out]
              refine spanL_step (by rw [HTL.out]; exact hkt) ?_
              rw [HTB.out k (by rw [HTL.out]; exact hkt) hks]
              unfold nblkB
              rw [hbk]
              rfl)
            clear hbk
            go_wp2_with (go_at_call 51; refine (rblank_any _ w).mono ?_; rintro e w' ⟨rfl, rfl⟩; simp only [HBK.out])
            go_round
            case rel => exact ⟨k + 1, by omega, by omega, by go_num, HS2⟩
            case measure => simp [RowKit.intOf]; omega
          · have hst : spanL nblkB T k = k := by
              by_cases hkt : k < to
              · refine spanL_stop (by rw [HTL.out]; exact hkt) ?_
                rw [HTB.out k (by rw [HTL.out]; exact hkt) (by omega)]
                unfold nblkB
                cases hbk : blkB s[k]
                · exact absurd ⟨_, hkt, hbk⟩ hgo
                · rfl
              · exact spanL_end (by rw [HTL.out]; omega)
            obtain ⟨hik2, hx, hxl, hwx⟩ := hend.out hst
            have hX : s.extract i k = bsOf ((T.drop i).take (k - i)) := by unfold strV at hx; injection hx
            obtain ⟨X, hXe⟩ : ∃ X, (T.drop i).take (k - i) = X := ⟨_, rfl⟩
            rw [hXe] at hxl hwx hX
            have HX := Lib.hid hX
            have HXL := Lib.hid hxl
            have HWX := Lib.hid hwx
            have hXW : Hid (WordB X) := Lib.hid (by
              have := wordsG_words (T.drop i) [] (fun _ h => by cases h) X (by rw [hwx]; simp)
              exact this)
            have hlpx : Hid (longP T (wordsG (T.drop i) []) i = if longB X = true then some i else longP T (wordsG (T.drop k) []) k) := Lib.hid (by
              rw [hwx, longP_word hiT HB1.out, hxl, show i + (k - i) = k by omega])
            have hkk : (∃ h : k < s.size, k < to ∧ blkB s[k] = true) ∨ to ≤ k := by
              by_cases hkt : k < to
              · refine .inl ⟨by omega, hkt, ?_⟩
                cases hbk : blkB (s[k]'(by omega))
                · exact absurd ⟨_, hkt, hbk⟩ hgo
                · rfl
              · exact .inr (by omega)
            have hBs : (bsOf B).size ≤ 4000000 := by rw [bsOf_size]; omega
            have hem := empty_toList B
            clear hend hgo hst hx hX hxl hwx hXe HS
            have hnext : Hid (¬ 900 < k - i → AddRel T ws fr (strV (joinW (ws ++ (dn ++ [X])))) (.int .i64 k)) := Lib.hid fun h9 =>
              ⟨k, dn ++ [X], rfl, rfl, by rw [HTL.out]; exact hk, by rw [HWD.out, HWX.out]; simp, by
                rw [HLP.out, hlpx.out, if_neg (by unfold longB; rw [HXL.out]; simpa using h9)], by
                intro x hx
                rcases List.mem_append.1 hx with hx | hx
                · exact HDN.out x hx
                · rw [List.mem_singleton] at hx; subst hx; exact hXW.out, by
                rw [← List.append_assoc]
                by_cases hwe : ws ++ dn = []
                · rw [hwe, List.nil_append, show joinW [X] = X by rw [joinW_cons]; simp [flW], HXL.out]; omega
                · rw [joinW_snoc X hwe, HBB.out]; simp [HXL.out]; omega⟩
            have hval : Hid ((B = [] → Value.string (bsOf B ++ s.extract i k) = strV (joinW (ws ++ (dn ++ [X])))) ∧ (B ≠ [] → Value.string (bsOf B ++ ⟨#[32]⟩ ++ s.extract i k) = strV (joinW (ws ++ (dn ++ [X]))))) := Lib.hid (by
              have hall : ∀ x ∈ ws ++ dn, WordB x := by
                intro x hx
                rcases List.mem_append.1 hx with hx | hx
                · exact HW.out x hx
                · exact HDN.out x hx
              refine ⟨fun h => ?_, fun h => ?_⟩
              · have h1 := joinW_empty hall (by rw [HBB.out]; exact h)
                rw [← List.append_assoc, h1, List.nil_append, show joinW [X] = X by rw [joinW_cons]; simp [flW], HX.out, h, bsOf_append]
                rfl
              · have h1 : ws ++ dn ≠ [] := by
                  rintro h2
                  rw [h2] at HBB
                  exact h HBB.out.symm
                rw [← List.append_assoc, joinW_snoc X h1, HBB.out, HX.out, show (⟨#[32]⟩ : ByteArray) = bsOf [32] from rfl, bsOf_append, bsOf_append, List.append_assoc]
                rfl)
            have hlong : Hid (900 < k - i → longP T (wordsG (T.drop fr) []) fr = some i) := Lib.hid fun h9 => by
              rw [HLP.out, hlpx.out, if_pos (by unfold longB; rw [HXL.out]; simpa using h9)]
            clear hXW hlpx
            have hes : (s.extract i k).size ≤ 1000000 := by
              rw [HX.out, bsOf_size, HXL.out]; omega
            by_cases h9 : 900 < k - i
            · have HL := Lib.hid (hlong.out h9)
              have h9' : (900 : Int) < (k : Int) - i := by omega
              clear hlong hnext hval
              rcases hkk with ⟨hks, hkt, hbk⟩ | hkt
              all_goals
                (try have HBK := Lib.hid hbk)
                (try clear hbk)
                go_wp2_with (go_at_call 51; refine (rblank_any _ w).mono ?_; rintro e w' ⟨rfl, rfl⟩; simp only [HBK.out])
                go_ret2
                exact ⟨rfl, B, i, rfl, .inl ⟨i, HL.out, rfl⟩⟩
            · have HN := Lib.hid (hnext.out h9)
              have h9' : ¬ (900 : Int) < (k : Int) - i := by omega
              clear hlong hnext
              by_cases hB0 : B = []
              case' pos =>
                have HV := Lib.hid (hval.out.1 hB0)
                rw [decide_eq_true hB0] at hem
              case' neg =>
                have HV := Lib.hid (hval.out.2 hB0)
                rw [decide_eq_false hB0] at hem
              all_goals
                clear hval hB0
                rcases hkk with ⟨hks, hkt, hbk⟩ | hkt
              all_goals
                (try have HBK := Lib.hid hbk)
                (try clear hbk)
                go_wp2_with (go_at_call 51; refine (rblank_any _ w).mono ?_; rintro e w' ⟨rfl, rfl⟩; simp only [HBK.out])
                go_round
                case rel => rw [HV.out]; exact HN.out
                case measure => simp [RowKit.intOf]; omega
      · have HB1 : Hid (blkB T[i] = true) := Lib.hid (by rw [hsb]; exact hbl)
        have HB2 := Lib.hid hbl
        clear hsb hbl
        go_wp2_with (go_at_call 51; refine (rblank_any _ w).mono ?_; rintro e w' ⟨rfl, rfl⟩; simp only [HB2.out])
        go_round
        case rel => exact ⟨i + 1, dn, by rw [HBB.out]; rfl, by go_num, by rw [HTL.out]; omega, by rw [← wordsG_skip hiT HB1.out]; exact HWD.out, by rw [← wordsG_skip hiT HB1.out, ← longP_skip hiT HB1.out]; exact HLP.out, HDN.out, by rw [HBB.out]; omega⟩
        case measure => simp [RowKit.intOf]; omega
    · obtain rfl : i = to := by omega
      go_wp2
      go_ret2
      refine ⟨rfl, B, -1, rfl, .inr ⟨?_, rfl, ?_⟩⟩
      · rw [HLP.out, List.drop_of_length_le (by rw [HTL.out]; exact Nat.le_refl _)]; rfl
      · rw [← HBB.out, HWD.out, List.drop_of_length_le (l := T) (i := i) (by rw [HTL.out]; exact Nat.le_refl _)]
        congr 2
        show dn = dn ++ []
        rw [List.append_nil]
end Go.Proofs.Ytknamddpflkifaa
