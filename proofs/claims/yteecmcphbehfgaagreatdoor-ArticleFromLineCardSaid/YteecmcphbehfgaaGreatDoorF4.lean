/- Field names and printable texts over this translation: the plain functions, the program's and the document's walks.
   Conditions: texts of at most 1000000 bytes. -/
import Derived.Test.YteecmcphbehfgaaGreatDoorF3
namespace Go.Proofs.YteecmcphbehfgaaGreatDoor
open Go.RowKit Go.Lib

theorem ret_bool {a b : Bool} (h : a = b) : Ending.returned (.bool a) = .returned (.bool b) := by rw [h]

/-! ### plain -/
def nameB (c : UInt8) : Bool := letB c || (digB c || decide (c.toNat = 45))
/-- Is the text a field name? -/
def validB (l : List UInt8) : Bool :=
  match l with
  | [] => false
  | c :: _ => decide (l.length ≤ 40) && letB c && l.all nameB
theorem validB_cons (c : UInt8) (r : List UInt8) : validB (c :: r) = (decide ((c :: r).length ≤ 40) && letB c && (c :: r).all nameB) := rfl
theorem valid_nil {l : List UInt8} (h : l.length = 0) : validB l = false := by
  obtain rfl := List.length_eq_zero_iff.1 h
  rfl
theorem valid_long {l : List UInt8} (h : 40 < l.length) : validB l = false := by
  cases l with
  | nil => rfl
  | cons c r => rw [validB_cons, decide_eq_false (by omega)]; rfl
theorem valid_first {l : List UInt8} (h : 0 < l.length) (hc : letB l[0] = false) : validB l = false := by
  cases l with
  | nil => rfl
  | cons c r => have hc' : letB c = false := hc; rw [validB_cons, hc']; simp
theorem valid_bad {l : List UInt8} {k : Nat} (h : k < l.length) (hc : nameB l[k] = false) : validB l = false := by
  cases l with
  | nil => rfl
  | cons c r =>
    rw [validB_cons]
    have : (c :: r).all nameB = false := by
      rw [List.all_eq_false]
      exact ⟨_, List.getElem_mem h, by rw [hc]; decide⟩
    rw [this]; simp
theorem valid_good {l : List UInt8} (h0 : 0 < l.length) (h1 : l.length ≤ 40) (h2 : letB l[0] = true) (h3 : ∀ k (h : k < l.length), nameB l[k] = true) : validB l = true := by
  cases l with
  | nil => simp at h0
  | cons c r =>
    rw [validB_cons]
    have hc : letB c = true := h2
    have : (c :: r).all nameB = true := by
      rw [List.all_eq_true]
      intro x hx
      obtain ⟨k, hk, rfl⟩ := List.getElem_of_mem hx
      exact h3 k hk
    rw [decide_eq_true h1, hc, this]; rfl

theorem name_of {c : UInt8} {a b : Bool} {d : Prop} [Decidable d] (h1 : letB c = a) (h2 : digB c = b) (h3 : c.toNat = 45 ↔ d) : nameB c = (a || (b || decide d)) := by
  unfold nameB
  rw [h1, h2, decide_eq_decide.2 h3]

set_option maxHeartbeats 1000000 in
theorem valid_any (s : ByteArray) (w : World) (hs : s.size ≤ 1000000) : Calls Tryz.prog 119 #[.string s] w fun e w' => e = .returned (.bool (validB s.data.toList)) ∧ w = w' := by
  have hll : s.data.toList.length = s.size := by simp
  have HL := Lib.hid hll
  clear hll
  by_cases h0 : s.size = 0
  · have hs0 : s = ⟨#[]⟩ := by
      apply ByteArray.ext
      exact Array.eq_empty_of_size_eq_zero h0
    subst hs0
    go_enter Tryz.func119, Tryz.ntmps119
    go_wp2
    go_ret
    exact ⟨rfl, rfl⟩
  have hne : s.toList.isEmpty = false := by
    rw [ByteArray.toList_eq]
    cases h : s.data.toList with
    | nil => rw [h] at HL; exact absurd HL.out (by simp; omega)
    | cons c r => rfl
  have hnt : ¬ s.toList = [] := by
    intro h
    rw [h] at hne
    cases hne
  have h00 : 0 < s.size := by omega
  by_cases h1 : 40 < s.size
  · have HV := Lib.hid (valid_long (l := s.data.toList) (by rw [HL.out]; exact h1))
    go_enter Tryz.func119, Tryz.ntmps119
    go_wp2
    go_ret
    exact ⟨ret_bool HV.out.symm, rfl⟩
  have h1' : s.size ≤ 40 := by omega
  cases hb : letB (s[0]'h00)
  · have HV : Hid (validB s.data.toList = false) := Lib.hid (valid_first (by rw [HL.out]; exact h00) hb)
    have HB := Lib.hid hb
    clear hb
    go_enter Tryz.func119, Tryz.ntmps119
    go_wp2_with (go_at_call 137; refine (isLetter_any _ w).mono ?_; rintro e w' ⟨rfl, rfl⟩; simp only [HB.out])
    go_ret
    exact ⟨ret_bool HV.out.symm, rfl⟩
  have HB := Lib.hid hb
  clear hb
  go_enter Tryz.func119, Tryz.ntmps119
  go_wp2_with (go_at_call 137; refine (isLetter_any _ w).mono ?_; rintro e w' ⟨rfl, rfl⟩; simp only [HB.out])
  go_loop [19, 3] (fun v _ => ∃ k : Nat, k ≤ s.size ∧ v = .int .i64 k ∧ Hid (∀ j (h : j < s.data.toList.length), j < k → nameB s.data.toList[j] = true)) (fun v _ => s.size - (RowKit.intOf v).toNat)
  case atStart => exact ⟨0, Nat.zero_le _, rfl, Lib.hid fun j _ h => by omega⟩
  case round =>
    obtain ⟨k, hk, rfl, HN⟩ := hrel
    by_cases hlt : k < s.size
    · have hk' : k < s.data.toList.length := by rw [HL.out]; exact hlt
      have hstep : Hid (nameB s[k] = true → ∀ j (h : j < s.data.toList.length), j < k + 1 → nameB s.data.toList[j] = true) := Lib.hid fun h j hj hjk => by
        by_cases e : j = k
        · subst e; exact h
        · exact HN.out j hj (by omega)
      have hbad : Hid (nameB s[k] = false → validB s.data.toList = false) := Lib.hid fun h => valid_bad hk' h
      have hdec : Hid (nameB s[k] = (letB s[k] || (digB s[k] || decide (s[k].toNat = 45)))) := Lib.hid rfl
      cases ha : letB s[k]
      · cases hd : digB s[k]
        · have HA := Lib.hid ha
          have HD := Lib.hid hd
          clear ha hd
          by_cases h45 : s[k].toNat = 45
          · have n45 : ((s[k].toNat : Int) != 45) = false := by rw [h45]; decide
            have H45 := Lib.hid h45
            clear h45
            go_wp2_with (first
              | (go_at_call 137; refine (isLetter_any _ w).mono ?_; rintro e w' ⟨rfl, rfl⟩; simp only [HA.out])
              | (go_at_call 138; refine (isDigit_any _ w).mono ?_; rintro e w' ⟨rfl, rfl⟩; simp only [HD.out]))
            go_round
            case rel => exact ⟨k + 1, by omega, by go_num, Lib.hid (hstep.out (by rw [hdec.out, HA.out, HD.out, decide_eq_true H45.out]; rfl))⟩
            case measure => simp [RowKit.intOf]; omega
          · have n45 : ((s[k].toNat : Int) != 45) = true := by rw [bne, beq_eq_false_iff_ne.2 (by omega)]; rfl
            have HV := Lib.hid (hbad.out (by rw [hdec.out, HA.out, HD.out, decide_eq_false h45]; rfl))
            go_wp2_with (first
              | (go_at_call 137; refine (isLetter_any _ w).mono ?_; rintro e w' ⟨rfl, rfl⟩; simp only [HA.out])
              | (go_at_call 138; refine (isDigit_any _ w).mono ?_; rintro e w' ⟨rfl, rfl⟩; simp only [HD.out]))
            go_ret
            exact ⟨ret_bool HV.out.symm, rfl⟩
        · have HA := Lib.hid ha
          have HD := Lib.hid hd
          clear ha hd
          go_wp2_with (first
            | (go_at_call 137; refine (isLetter_any _ w).mono ?_; rintro e w' ⟨rfl, rfl⟩; simp only [HA.out])
            | (go_at_call 138; refine (isDigit_any _ w).mono ?_; rintro e w' ⟨rfl, rfl⟩; simp only [HD.out]))
          go_round
          case rel => exact ⟨k + 1, by omega, by go_num, Lib.hid (hstep.out (by rw [hdec.out, HA.out, HD.out]; rfl))⟩
          case measure => simp [RowKit.intOf]; omega
      · have HA := Lib.hid ha
        clear ha
        go_wp2_with (go_at_call 137; refine (isLetter_any _ w).mono ?_; rintro e w' ⟨rfl, rfl⟩; simp only [HA.out])
        go_round
        case rel => exact ⟨k + 1, by omega, by go_num, Lib.hid (hstep.out (by rw [hdec.out, HA.out]; rfl))⟩
        case measure => simp [RowKit.intOf]; omega
    · obtain rfl : k = s.size := by omega
      have HV : Hid (validB s.data.toList = true) := Lib.hid (valid_good (by rw [HL.out]; exact h00) (by rw [HL.out]; exact h1') HB.out (fun j hj => HN.out j hj (by rw [HL.out] at hj; exact hj)))
      go_wp2
      go_ret
      exact ⟨ret_bool HV.out.symm, rfl⟩

set_option maxHeartbeats 1000000 in
theorem rvalid_any (s : ByteArray) (w : World) (hs : s.size ≤ 1000000) : Calls Tryz.prog 69 #[.string s] w fun e w' => e = .returned (.bool (validB s.data.toList)) ∧ w = w' := by
  have hll : s.data.toList.length = s.size := by simp
  have HL := Lib.hid hll
  clear hll
  by_cases h0 : s.size < 1
  · have HV := Lib.hid (valid_nil (l := s.data.toList) (by rw [HL.out]; omega))
    go_enter Tryz.func69, Tryz.ntmps69
    go_wp2
    go_ret
    exact ⟨ret_bool HV.out.symm, rfl⟩
  have h00 : 0 < s.size := by omega
  by_cases h1 : 40 < s.size
  · have HV := Lib.hid (valid_long (l := s.data.toList) (by rw [HL.out]; exact h1))
    go_enter Tryz.func69, Tryz.ntmps69
    go_wp2
    go_ret
    exact ⟨ret_bool HV.out.symm, rfl⟩
  have h1' : s.size ≤ 40 := by omega
  go_enter Tryz.func69, Tryz.ntmps69
  go_wp2
  go_loop [3, 4] (fun v _ => ∃ k : Nat, k ≤ s.size ∧ v = .int .i64 k ∧ Hid ((∀ j (h : j < s.data.toList.length), j < k → nameB s.data.toList[j] = true) ∧ (0 < k → letB (s[0]'h00) = true))) (fun v _ => s.size - (RowKit.intOf v).toNat)
  case atStart => exact ⟨0, Nat.zero_le _, rfl, Lib.hid ⟨fun j _ h => by omega, fun h => by omega⟩⟩
  case round =>
    obtain ⟨k, hk, rfl, HN⟩ := hrel
    by_cases hlt : k < s.size
    · have hk' : k < s.data.toList.length := by rw [HL.out]; exact hlt
      have hstep : Hid (nameB s[k] = true → (k = 0 → letB s[k] = true) → (∀ j (h : j < s.data.toList.length), j < k + 1 → nameB s.data.toList[j] = true) ∧ (0 < k + 1 → letB (s[0]'h00) = true)) := Lib.hid fun h h' => by
        refine ⟨fun j hj hjk => ?_, fun _ => ?_⟩
        · by_cases e : j = k
          · subst e; exact h
          · exact HN.out.1 j hj (by omega)
        · by_cases e : k = 0
          · subst e; exact h' rfl
          · exact HN.out.2 (by omega)
      have hbad : Hid (nameB s[k] = false → validB s.data.toList = false) := Lib.hid fun h => valid_bad hk' h
      have hbad0 : Hid (k = 0 → letB s[k] = false → validB s.data.toList = false) := Lib.hid fun e h => by subst e; exact valid_first (by rw [HL.out]; exact h00) h
      have hdec : Hid (nameB s[k] = (letB s[k] || (digB s[k] || decide (s[k].toNat = 45)))) := Lib.hid rfl
      have hlet : Hid (letB s[k] = (lowB s[k] || uppB s[k])) := Lib.hid rfl
      cases hlo : lowB s[k]
      · cases hup : uppB s[k]
        · have HLO := Lib.hid hlo
          have HUP := Lib.hid hup
          clear hlo hup
          have HLT : Hid (letB s[k] = false) := Lib.hid (by rw [hlet.out, HLO.out, HUP.out]; rfl)
          by_cases hk0 : k = 0
          · subst hk0
            have HV := Lib.hid (hbad0.out rfl HLT.out)
            go_wp2_with (first
              | (go_at_call 93; refine (lowercase_any _ w).mono ?_; rintro e w' ⟨rfl, rfl⟩; simp only [HLO.out])
              | (go_at_call 94; refine (uppercase_any _ w).mono ?_; rintro e w' ⟨rfl, rfl⟩; simp only [HUP.out]))
            go_ret
            exact ⟨ret_bool HV.out.symm, rfl⟩
          have k0 : ((k : Int) == 0) = false := beq_eq_false_iff_ne.2 (by omega)
          cases hd : digB s[k]
          · have HD := Lib.hid hd
            clear hd
            by_cases h45 : s[k].toNat = 45
            · have n45 : ((s[k].toNat : Int) != 45) = false := by rw [h45]; decide
              have H45 := Lib.hid h45
              clear h45
              go_wp2_with (first
                | (go_at_call 93; refine (lowercase_any _ w).mono ?_; rintro e w' ⟨rfl, rfl⟩; simp only [HLO.out])
                | (go_at_call 94; refine (uppercase_any _ w).mono ?_; rintro e w' ⟨rfl, rfl⟩; simp only [HUP.out])
                | (go_at_call 95; refine (rdigit_any _ w).mono ?_; rintro e w' ⟨rfl, rfl⟩; simp only [HD.out]))
              go_round
              case rel => exact ⟨k + 1, by omega, by go_num, Lib.hid (hstep.out (by rw [hdec.out, HLT.out, HD.out, decide_eq_true H45.out]; rfl) (fun e => absurd e hk0))⟩
              case measure => simp [RowKit.intOf]; omega
            · have n45 : ((s[k].toNat : Int) != 45) = true := by rw [bne, beq_eq_false_iff_ne.2 (by omega)]; rfl
              have HV := Lib.hid (hbad.out (by rw [hdec.out, HLT.out, HD.out, decide_eq_false h45]; rfl))
              go_wp2_with (first
                | (go_at_call 93; refine (lowercase_any _ w).mono ?_; rintro e w' ⟨rfl, rfl⟩; simp only [HLO.out])
                | (go_at_call 94; refine (uppercase_any _ w).mono ?_; rintro e w' ⟨rfl, rfl⟩; simp only [HUP.out])
                | (go_at_call 95; refine (rdigit_any _ w).mono ?_; rintro e w' ⟨rfl, rfl⟩; simp only [HD.out]))
              go_ret
              exact ⟨ret_bool HV.out.symm, rfl⟩
          · have HD := Lib.hid hd
            clear hd
            go_wp2_with (first
              | (go_at_call 93; refine (lowercase_any _ w).mono ?_; rintro e w' ⟨rfl, rfl⟩; simp only [HLO.out])
              | (go_at_call 94; refine (uppercase_any _ w).mono ?_; rintro e w' ⟨rfl, rfl⟩; simp only [HUP.out])
              | (go_at_call 95; refine (rdigit_any _ w).mono ?_; rintro e w' ⟨rfl, rfl⟩; simp only [HD.out]))
            go_round
            case rel => exact ⟨k + 1, by omega, by go_num, Lib.hid (hstep.out (by rw [hdec.out, HLT.out, HD.out]; rfl) (fun e => absurd e hk0))⟩
            case measure => simp [RowKit.intOf]; omega
        · have HLO := Lib.hid hlo
          have HUP := Lib.hid hup
          clear hlo hup
          have HLT : Hid (letB s[k] = true) := Lib.hid (by rw [hlet.out, HLO.out, HUP.out]; rfl)
          go_wp2_with (first
            | (go_at_call 93; refine (lowercase_any _ w).mono ?_; rintro e w' ⟨rfl, rfl⟩; simp only [HLO.out])
            | (go_at_call 94; refine (uppercase_any _ w).mono ?_; rintro e w' ⟨rfl, rfl⟩; simp only [HUP.out]))
          go_round
          case rel => exact ⟨k + 1, by omega, by go_num, Lib.hid (hstep.out (by rw [hdec.out, HLT.out]; rfl) (fun _ => HLT.out))⟩
          case measure => simp [RowKit.intOf]; omega
      · have HLO := Lib.hid hlo
        clear hlo
        have HLT : Hid (letB s[k] = true) := Lib.hid (by rw [hlet.out, HLO.out]; rfl)
        go_wp2_with (go_at_call 93; refine (lowercase_any _ w).mono ?_; rintro e w' ⟨rfl, rfl⟩; simp only [HLO.out])
        go_round
        case rel => exact ⟨k + 1, by omega, by go_num, Lib.hid (hstep.out (by rw [hdec.out, HLT.out]; rfl) (fun _ => HLT.out))⟩
        case measure => simp [RowKit.intOf]; omega
    · obtain rfl : k = s.size := by omega
      have HV : Hid (validB s.data.toList = true) := Lib.hid (valid_good (by rw [HL.out]; exact h00) (by rw [HL.out]; exact h1') (HN.out.2 h00) (fun j hj => HN.out.1 j hj (by rw [HL.out] at hj; exact hj)))
      go_wp2
      go_ret
      exact ⟨ret_bool HV.out.symm, rfl⟩

/-! ### printable texts -/
/-- The offset of the first byte that is neither visible nor a space, or -1. -/
def printI (l : List UInt8) : Int := if spanL prtB l 0 = l.length then -1 else spanL prtB l 0
theorem printI_all {l : List UInt8} (h : spanL prtB l 0 = l.length) : printI l = -1 := by unfold printI; rw [if_pos h]
theorem printI_at {l : List UInt8} {k : Nat} (h : spanL prtB l 0 = k) (hk : k < l.length) : printI l = k := by unfold printI; rw [if_neg (by omega), h]

set_option maxHeartbeats 1000000 in
theorem printable_any (s : ByteArray) (w : World) (hs : s.size ≤ 1000000) : Calls Tryz.prog 120 #[.string s] w fun e w' => e = .returned (.int .i64 (printI s.data.toList)) ∧ w = w' := by
  have hll : s.data.toList.length = s.size := by simp
  have e71 : ∀ (args : Array Value) (w : World), (callFunc 140 args).run Tryz.prog w = .ok (.enter 140 args) w := enters_of Tryz.func140 (by kernel_rfl) rfl
  have C1 := Lib.hid (span_any s 0 140 #[] prtB w (Nat.zero_le _) hs (class_prt _) e71)
  have hle := spanL_le prtB s.data.toList 0 (Nat.zero_le _)
  clear e71
  by_cases h : spanL prtB s.data.toList 0 = s.data.toList.length
  · have HP := Lib.hid (printI_all h)
    rw [h, hll] at C1
    clear h hle hll
    go_enter Tryz.func120, Tryz.ntmps120
    go_wp2_with (go_at_call 139; refine C1.out.mono ?_; rintro e w' ⟨rfl, rfl⟩)
    go_ret
    exact ⟨ret_int HP.out.symm, rfl⟩
  · have HP := Lib.hid (printI_at rfl (by omega : spanL prtB s.data.toList 0 < s.data.toList.length))
    rw [hll] at h hle
    have hq : ((spanL prtB s.data.toList 0 : Nat) : Int) ≠ s.size := by omega
    have hb : ((spanL prtB s.data.toList 0 : Int) == s.size) = false := beq_eq_false_iff_ne.2 hq
    generalize spanL prtB s.data.toList 0 = q at C1 HP h hle hq hb
    clear hll h hq
    go_enter Tryz.func120, Tryz.ntmps120
    go_wp2_with (go_at_call 139; refine C1.out.mono ?_; rintro e w' ⟨rfl, rfl⟩)
    go_ret
    exact ⟨ret_int HP.out.symm, rfl⟩

set_option maxHeartbeats 1000000 in
theorem rprintable_any (s : ByteArray) (w : World) (hs : s.size ≤ 1000000) : Calls Tryz.prog 98 #[.string s] w fun e w' => e = .returned (.int .i64 (printI s.data.toList)) ∧ w = w' := by
  have hll : s.data.toList.length = s.size := by simp
  have HL := Lib.hid hll
  clear hll
  go_enter Tryz.func98, Tryz.ntmps98
  go_wp2
  go_loop [3] (fun v => ∃ k : Nat, k ≤ s.size ∧ v = .int .i64 k ∧ Hid (spanL prtB s.data.toList 0 = spanL prtB s.data.toList k)) (fun v => s.size - (RowKit.intOf v).toNat)
  case atStart => exact ⟨0, Nat.zero_le _, rfl, Lib.hid rfl⟩
  case round =>
    obtain ⟨k, hk, rfl, HS⟩ := hrel
    by_cases hlt : k < s.size
    · have hk' : k < s.data.toList.length := by rw [HL.out]; exact hlt
      have hdec : Hid (prtB s[k] = (decide (s[k].toNat = 32) || visB s[k])) := Lib.hid rfl
      have hstop : Hid (prtB s[k] = false → printI s.data.toList = k) := Lib.hid fun h => printI_at (HS.out.trans (spanL_stop hk' h)) hk'
      have hgo : Hid (prtB s[k] = true → spanL prtB s.data.toList 0 = spanL prtB s.data.toList (k + 1)) := Lib.hid fun h => HS.out.trans (spanL_step hk' h)
      cases hv : visB s[k]
      · have HVV := Lib.hid hv
        clear hv
        by_cases h32 : s[k].toNat = 32
        · have n32 : ((s[k].toNat : Int) != 32) = false := by rw [h32]; decide
          have H32 := Lib.hid h32
          clear h32
          go_wp2_with (go_at_call 67; refine (rvisible_any _ w).mono ?_; rintro e w' ⟨rfl, rfl⟩; simp only [HVV.out])
          go_round
          case rel => exact ⟨k + 1, by omega, by go_num, Lib.hid (hgo.out (by rw [hdec.out, decide_eq_true H32.out]; rfl))⟩
          case measure => simp [RowKit.intOf]; omega
        · have n32 : ((s[k].toNat : Int) != 32) = true := by rw [bne, beq_eq_false_iff_ne.2 (by omega)]; rfl
          have HV := Lib.hid (hstop.out (by rw [hdec.out, decide_eq_false h32, HVV.out]; rfl))
          go_wp2_with (go_at_call 67; refine (rvisible_any _ w).mono ?_; rintro e w' ⟨rfl, rfl⟩; simp only [HVV.out])
          go_ret
          exact ⟨ret_int HV.out.symm, rfl⟩
      · have HVV := Lib.hid hv
        clear hv
        go_wp2_with (go_at_call 67; refine (rvisible_any _ w).mono ?_; rintro e w' ⟨rfl, rfl⟩; simp only [HVV.out])
        go_round
        case rel => exact ⟨k + 1, by omega, by go_num, Lib.hid (hgo.out (by rw [hdec.out, HVV.out]; simp))⟩
        case measure => simp [RowKit.intOf]; omega
    · obtain rfl : k = s.size := by omega
      have HV := Lib.hid (printI_all (HS.out.trans ((spanL_end (by rw [HL.out]; exact Nat.le_refl _)).trans HL.out.symm)))
      go_wp2
      go_ret
      exact ⟨ret_int HV.out.symm, rfl⟩
end Go.Proofs.YteecmcphbehfgaaGreatDoor
