/- utf8, the document's side: the size that a first byte tells, least and greatest code points, the beginning of an encoding. Conditions: as stated. -/
import Derived.Test.YteecmcphbehfgaaGreatDoorA4
namespace Go.Proofs.YteecmcphbehfgaaGreatDoor
open Go.RowKit Go.Lib

/-- The size and the bits of a first byte by the table of patterns. -/
def leadN (c : UInt8) : Nat := if c.toNat < 128 then 1 else if 192 ≤ c.toNat ∧ c.toNat < 224 then 2 else if 224 ≤ c.toNat ∧ c.toNat < 240 then 3 else if 240 ≤ c.toNat ∧ c.toNat < 248 then 4 else 0
def leadV (c : UInt8) : Nat := if leadN c = 0 then 0 else c.toNat % maskN (leadN c)
theorem leadN_le (c : UInt8) : leadN c ≤ 4 := by unfold leadN; (repeat' split) <;> omega
theorem lead_size (c : UInt8) : sizeB c ≠ 0 → sizeB c = leadN c := by
  unfold sizeB leadN
  intro h
  (repeat' split) <;> first | omega | (exfalso; apply h; (repeat' split) <;> omega)
theorem leadV_lt (c : UInt8) : leadV c < 128 := by
  unfold leadV
  split
  · omega
  · exact mask_lt _ _

set_option maxRecDepth 10000 in
theorem rlead_any (c : UInt8) (w : World) : Calls Tryz.prog 133 #[.int .u8 (c.toNat : Int)] w fun e w' => e = .returned (.tuple #[.int .i64 (leadN c : Int), .int .i64 (leadV c : Int)]) ∧ w = w' := by
  have hc := c.toNat_lt
  have e0 : ∀ (n : Nat) (v : Int), leadN c = n → (n = 0 → v = 0) → (n ≠ 0 → v = ((c.toNat % maskN n : Nat) : Int)) → Ending.returned (.tuple #[.int .i64 (n : Int), .int .i64 v]) = Ending.returned (.tuple #[.int .i64 (leadN c : Int), .int .i64 (leadV c : Int)]) := by
    intro n v hn h1 h2
    have : v = (leadV c : Int) := by
      unfold leadV
      rw [hn]
      by_cases h : n = 0
      · rw [if_pos h, h1 h]; rfl
      · rw [if_neg h, h2 h]
    rw [hn, this]
  have E := Lib.hid e0
  clear e0
  have s1 : c.toNat < 128 → leadN c = 1 := fun h => by unfold leadN; rw [if_pos h]
  have s2 : 192 ≤ c.toNat → c.toNat < 224 → leadN c = 2 := fun h h' => by unfold leadN; rw [if_neg (by omega), if_pos ⟨h, h'⟩]
  have s3 : 224 ≤ c.toNat → c.toNat < 240 → leadN c = 3 := fun h h' => by unfold leadN; rw [if_neg (by omega), if_neg (by omega), if_pos ⟨h, h'⟩]
  have s4 : 240 ≤ c.toNat → c.toNat < 248 → leadN c = 4 := fun h h' => by unfold leadN; rw [if_neg (by omega), if_neg (by omega), if_neg (by omega), if_pos ⟨h, h'⟩]
  have s0 : (128 ≤ c.toNat ∧ c.toNat < 192) ∨ 248 ≤ c.toNat → leadN c = 0 := fun h => by unfold leadN; rw [if_neg (by omega), if_neg (by omega), if_neg (by omega), if_neg (by omega)]
  have S1 := Lib.hid s1
  have S2 := Lib.hid s2
  have S3 := Lib.hid s3
  have S4 := Lib.hid s4
  have S0 := Lib.hid s0
  clear s1 s2 s3 s4 s0
  rcases (by omega : c.toNat < 128 ∨ (128 ≤ c.toNat ∧ c.toNat < 192) ∨ (192 ≤ c.toNat ∧ c.toNat < 224) ∨ (224 ≤ c.toNat ∧ c.toNat < 240) ∨ (240 ≤ c.toNat ∧ c.toNat < 248) ∨ 248 ≤ c.toNat) with h | ⟨h, h'⟩ | ⟨h, h'⟩ | ⟨h, h'⟩ | ⟨h, h'⟩ | h
  all_goals
    go_enter Tryz.func133, Tryz.ntmps133
    go_wp2
    all_goals go_ret2
  · exact ⟨E.out 1 _ (S1.out h) (fun f => absurd f (by decide)) (fun _ => by show _ = ((c.toNat % 128 : Nat) : Int); omega), rfl⟩
  · exact ⟨E.out 0 _ (S0.out (.inl ⟨h, h'⟩)) (fun _ => rfl) (fun f => absurd rfl f), rfl⟩
  · exact ⟨E.out 2 _ (S2.out h h') (fun f => absurd f (by decide)) (fun _ => by show _ = ((c.toNat % 32 : Nat) : Int); omega), rfl⟩
  · exact ⟨E.out 3 _ (S3.out h h') (fun f => absurd f (by decide)) (fun _ => by show _ = ((c.toNat % 16 : Nat) : Int); omega), rfl⟩
  · exact ⟨E.out 4 _ (S4.out h h') (fun f => absurd f (by decide)) (fun _ => by show _ = ((c.toNat % 8 : Nat) : Int); omega), rfl⟩
  · exact ⟨E.out 0 _ (S0.out (.inr h)) (fun _ => rfl) (fun f => absurd rfl f), rfl⟩

theorem rleast_any (n : Nat) (h1 : 1 ≤ n) (h4 : n ≤ 4) (w : World) : Calls Tryz.prog 134 #[.int .i64 (n : Int)] w fun e w' => e = .returned (.int .i64 (minN n : Int)) ∧ Below w.heap.size w w' := by
  rcases (by omega : n = 1 ∨ n = 2 ∨ n = 3 ∨ n = 4) with rfl | rfl | rfl | rfl
  all_goals
    go_enter Tryz.func134, Tryz.ntmps134
    go_wp2
    go_ret
    exact ⟨rfl, (Below.refl _ _).alloc (Nat.le_refl _) _⟩
theorem rmost_any (n : Nat) (h1 : 1 ≤ n) (h4 : n ≤ 4) (w : World) : Calls Tryz.prog 135 #[.int .i64 (n : Int)] w fun e w' => e = .returned (.int .i64 (maxN n : Int)) ∧ Below w.heap.size w w' := by
  rcases (by omega : n = 1 ∨ n = 2 ∨ n = 3 ∨ n = 4) with rfl | rfl | rfl | rfl
  all_goals
    go_enter Tryz.func135, Tryz.ntmps135
    go_wp2
    go_ret
    exact ⟨rfl, (Below.refl _ _).alloc (Nat.le_refl _) _⟩

/-! ### Begins -/
/-- The smallest and the greatest number that begin with given bits; j is the number of bytes that lack. -/
def loN (V j : Nat) : Nat := V * 64 ^ j
def hiN (V j : Nat) : Nat := V * 64 ^ j + (64 ^ j - 1)
theorem loN_zero (V : Nat) : loN V 0 = V := by simp [loN]
theorem hiN_zero (V : Nat) : hiN V 0 = V := by simp [hiN]
theorem loN_step (V j : Nat) : loN V (j + 1) = 64 * loN V j := by unfold loN; rw [Nat.pow_succ]; rw [← Nat.mul_assoc, Nat.mul_comm]
theorem hiN_step (V j : Nat) : hiN V (j + 1) = 64 * hiN V j + 63 := by
  unfold hiN
  have h : 0 < 64 ^ j := Nat.pow_pos (by omega)
  rw [Nat.pow_succ, ← Nat.mul_assoc]
  generalize V * 64 ^ j = A at *
  generalize 64 ^ j = P at *
  omega
/-- Some encoding has a number between lo and hi. -/
def anyB (n lo hi : Nat) : Bool := decide (max lo (minN n) ≤ min hi (maxN n)) && !(decide (55296 ≤ max lo (minN n)) && decide (min hi (maxN n) ≤ 57343))
theorem any_one (n V : Nat) : anyB n V V = scalB n V := by
  rw [Bool.eq_iff_iff, scalB_iff]
  simp [anyB]
  omega
theorem any_first (c : UInt8) (h : leadN c ≠ 0) : anyB (leadN c) (loN (leadV c) (leadN c - 1)) (hiN (leadV c) (leadN c - 1)) = decide (sizeB c ≠ 0) := by
  have k : ∀ x : Fin 256, leadN (UInt8.ofNat x.val) = 0 ∨ anyB (leadN (UInt8.ofNat x.val)) (loN (leadV (UInt8.ofNat x.val)) (leadN (UInt8.ofNat x.val) - 1)) (hiN (leadV (UInt8.ofNat x.val)) (leadN (UInt8.ofNat x.val) - 1)) = decide (sizeB (UInt8.ofNat x.val) ≠ 0) := by decide +kernel
  have := k ⟨c.toNat, c.toNat_lt⟩
  rw [UInt8.ofNat_toNat] at this
  exact this.resolve_left h

/-- The answer of Begins. -/
def begB (s : ByteArray) (n v : Nat) : Bool := decide (s.size ≤ n) && (tlB s).all contU && anyB n (loN (runeV (tlB s) v) (n - s.size)) (hiN (runeV (tlB s) v) (n - s.size))
def RBegPost (s : ByteArray) (n v : Nat) (w : World) (e : Ending) (w' : World) : Prop :=
  (e = .returned (.tuple #[.bool false, .int .i64 0, .int .i64 0]) ∧ (n ≠ 0 → begB s n v = false) ∨ e = .returned (.tuple #[.bool true, .int .i64 n, .int .i64 (runeV (tlB s) v : Nat)]) ∧ n ≠ 0 ∧ begB s n v = true) ∧ Below w.heap.size w w'
theorem RBegPost.no {s : ByteArray} {n v : Nat} {w w' : World} (h : n ≠ 0 → begB s n v = false) (hb : Below w.heap.size w w') : RBegPost s n v w (.returned (.tuple #[.bool false, .int .i64 0, .int .i64 0])) w' := ⟨.inl ⟨rfl, h⟩, hb⟩
theorem RBegPost.yes {s : ByteArray} {n v : Nat} {w w' : World} {r : Nat} (h0 : n ≠ 0) (hr : r = runeV (tlB s) v) (h : begB s n v = true) (hb : Below w.heap.size w w') : RBegPost s n v w (.returned (.tuple #[.bool true, .int .i64 n, .int .i64 r])) w' := ⟨.inr ⟨by rw [hr], h0, h⟩, hb⟩

set_option maxRecDepth 100000 in
set_option maxHeartbeats 4000000 in
theorem rbegins_any (s : ByteArray) (h1 : 1 ≤ s.size) (hs : s.size ≤ 1000000) (w : World) : Calls Tryz.prog 113 #[.string s] w (RBegPost s (leadN s[0]) (leadV s[0]) w) := by
  have L := Lib.hid (rlead_any s[0])
  have h4 := leadN_le s[0]
  have hv := leadV_lt s[0]
  obtain ⟨n, hn⟩ : ∃ n, leadN s[0] = n := ⟨_, rfl⟩
  obtain ⟨v, hv'⟩ : ∃ v, leadV s[0] = v := ⟨_, rfl⟩
  rw [hn, hv'] at L
  rw [hn] at h4 ⊢
  rw [hv'] at hv ⊢
  clear hn hv'
  by_cases hz : n = 0
  · subst hz
    go_enter Tryz.func113, Tryz.ntmps113
    go_wp2_with fail
    refine (L.out _).mono ?_
    rintro e w1 ⟨rfl, rfl⟩
    go_wp2
    go_ret3
    exact .no (fun f => absurd rfl f) (Below.refl _ _)
  have n0 : ((n : Int) == 0) = false := by simp; omega
  by_cases hsn : n < s.size
  · have HF : Hid (begB s n v = false) := Lib.hid (by unfold begB; rw [decide_eq_false (by omega)]; rfl)
    go_enter Tryz.func113, Tryz.ntmps113
    go_wp2_with fail
    refine (L.out _).mono ?_
    rintro e w1 ⟨rfl, rfl⟩
    go_wp2
    go_ret3
    exact .no (fun _ => HF.out) (Below.refl _ _)
  have n1 : decide (n < s.size) = false := by simp; omega
  have CL := Lib.hid (fun W => rleast_any n (by omega) h4 W)
  have CM := Lib.hid (fun W => rmost_any n (by omega) h4 W)
  obtain ⟨mn, hmn⟩ : ∃ x, minN n = x := ⟨_, rfl⟩
  obtain ⟨mx, hmx⟩ : ∃ x, maxN n = x := ⟨_, rfl⟩
  rw [hmn] at CL
  rw [hmx] at CM
  have hmn1 : mn ≤ 65536 := by rw [← hmn]; unfold minN; (repeat' split) <;> omega
  have hmx1 : mx ≤ 1114111 := by rw [← hmx]; unfold maxN; (repeat' split) <;> omega
  have HMN := Lib.hid hmn
  have HMX := Lib.hid hmx
  have X1 := Lib.hid (preV_one s v)
  have X2 := Lib.hid (preC_one s)
  clear hmn hmx
  go_enter Tryz.func113, Tryz.ntmps113
  go_wp2_with fail
  refine (L.out _).mono ?_
  rintro e w1 ⟨rfl, rfl⟩
  go_wp2
  go_loop [6, 7] (fun v6 v7 => ∃ k r : Nat, 1 ≤ k ∧ k ≤ s.size ∧ v7 = .int .i64 k ∧ v6 = .int .i64 r ∧ (k = 1 → r < 128) ∧ (k = 2 → r < 8192) ∧ (k = 3 → r < 524288) ∧ r < 33554432 ∧ r = preV s k v ∧ preC s k = true) (fun _ v7 => s.size - (RowKit.intOf v7).toNat)
  case atStart => exact ⟨1, v, by omega, by omega, rfl, rfl, by omega, by omega, by omega, by omega, X1.out.symm, X2.out⟩
  case round =>
    obtain ⟨k, r, hk1, hk2, rfl, rfl, q1, q2, q3, q4, hr, hc⟩ := hrel
    have HR := Lib.hid hr
    have HC := Lib.hid hc
    clear hr hc
    by_cases hks : k < s.size
    · have q5 : r < 524288 := by omega
      have hcs := s[k].toNat_lt
      have HVS := Lib.hid (preV_step v hk1 hks)
      have HCS := Lib.hid (preC_step hk1 hks)
      by_cases hcb : 128 ≤ s[k].toNat ∧ s[k].toNat ≤ 191
      · obtain ⟨hc1, hc2⟩ := hcb
        have HCB : Hid (contU s[k] = true) := Lib.hid (by unfold contU; simp; omega)
        go_wp2
        go_round
        case rel => exact ⟨k + 1, r * 64 + s[k].toNat % 64, by omega, by omega, by go_num, by congr 1; omega, by omega, by omega, by omega, by omega, by rw [HVS.out, ← HR.out], by rw [HCS.out, HC.out, HCB.out]; rfl⟩
        case measure => simp [RowKit.intOf]; omega
      · have HCB : Hid (contU s[k] = false) := Lib.hid (by rw [← Bool.not_eq_true]; unfold contU; simp; omega)
        have HF : Hid (begB s n v = false) := Lib.hid (by unfold begB; rw [preC_bad hk1 hks HCB.out, Bool.and_false]; rfl)
        by_cases hc1 : 128 ≤ s[k].toNat
        · have hc2 : 191 < s[k].toNat := by omega
          go_wp2
          go_ret3
          exact .no (fun _ => HF.out) (Below.refl _ _)
        · go_wp2
          go_ret3
          exact .no (fun _ => HF.out) (Below.refl _ _)
    · obtain rfl : k = s.size := by omega
      have Y1 := Lib.hid (loN_zero r)
      have Y2 := Lib.hid (hiN_zero r)
      go_wp2
      go_loop [8, 9, 10] (fun v8 v9 v10 => ∃ i lo hi : Nat, s.size ≤ i ∧ i ≤ n ∧ v10 = .int .i64 i ∧ v8 = .int .i64 lo ∧ v9 = .int .i64 hi ∧ lo ≤ hi ∧ (i = 1 → hi < 128) ∧ (i = 2 → hi < 8192) ∧ (i = 3 → hi < 524288) ∧ hi < 33554432 ∧ lo = loN r (i - s.size) ∧ hi = hiN r (i - s.size)) (fun _ _ v10 => n - (RowKit.intOf v10).toNat)
      case atStart => exact ⟨s.size, r, r, by omega, by omega, rfl, rfl, rfl, by omega, by omega, by omega, by omega, by omega, by rw [Nat.sub_self, Y1.out], by rw [Nat.sub_self, Y2.out]⟩
      case round =>
        clear q1 q2 q3 q4 hks
        obtain ⟨i, lo, hi, hi1, hi2, rfl, rfl, rfl, hlh, q1, q2, q3, q4, hlo, hhi⟩ := hrel
        have HLO := Lib.hid hlo
        have HHI := Lib.hid hhi
        clear hlo hhi
        by_cases hin : i < n
        · have q5 : hi < 524288 := by omega
          have ei : i + 1 - s.size = i - s.size + 1 := by omega
          have EI := Lib.hid ei
          clear ei
          go_wp2
          go_round
          case rel => exact ⟨i + 1, 64 * lo, 64 * hi + 63, by omega, by omega, by go_num, by first | (simp; done) | (congr 1; omega), by first | (simp; done) | (congr 1; omega), by omega, by omega, by omega, by omega, by omega, by rw [EI.out, loN_step, ← HLO.out], by rw [EI.out, hiN_step, ← HHI.out]⟩
          case measure => simp [RowKit.intOf]; omega
        · obtain rfl : i = n := by omega
          obtain ⟨LO, m1⟩ : ∃ x : Int, (if lo < mn then (mn : Int) else (lo : Int)) = x := ⟨_, rfl⟩
          obtain ⟨HI, m2⟩ : ∃ x : Int, (if mx < hi then (mx : Int) else (hi : Int)) = x := ⟨_, rfl⟩
          have G : Hid (∀ b : Bool, (b = true ↔ (LO ≤ HI ∧ ¬ (55296 ≤ LO ∧ HI ≤ 57343))) → begB s i v = b) := Lib.hid (by
            intro b hb
            have h1 := HR.out
            have h2 := HC.out
            rw [preV_all] at h1
            rw [preC_all] at h2
            unfold begB
            rw [h2, ← h1, ← HLO.out, ← HHI.out, decide_eq_true (by omega), Bool.true_and, Bool.true_and, Bool.eq_iff_iff, hb]
            simp only [anyB, HMN.out, HMX.out, Bool.and_eq_true, Bool.not_eq_true', Bool.and_eq_false_iff, decide_eq_true_eq, decide_eq_false_iff_not]
            split at m1 <;> split at m2 <;> omega)
          have HR2 : Hid (r = runeV (tlB s) v) := Lib.hid (HR.out.trans (preV_all s v))
          clear q1 q2 q3 q4 hmn1 hmx1
          go_wp2_with fail
          refine (CL.out _).mono ?_
          rintro e w1 ⟨rfl, hb1⟩
          have HB1 := Lib.hid hb1
          clear hb1
          go_wp2_with fail
          refine (CM.out _).mono ?_
          rintro e w2 ⟨rfl, hb2⟩
          have HB2 := Lib.hid (HB1.out.trans (hb2.mono HB1.out.size))
          clear hb2
          by_cases t1 : 55296 ≤ LO
          · by_cases t2 : HI ≤ 57343
            · go_wp2
              go_ret3
              exact .no (fun _ => G.out false ⟨fun f => absurd f (by decide), fun f => by exfalso; omega⟩) HB2.out
            · by_cases t3 : HI < LO
              · go_wp2
                go_ret3
                exact .no (fun _ => G.out false ⟨fun f => absurd f (by decide), fun f => by exfalso; omega⟩) HB2.out
              · go_wp2
                go_ret3
                exact .yes (by omega) HR2.out (G.out true ⟨fun _ => by omega, fun _ => rfl⟩) HB2.out
          · by_cases t3 : HI < LO
            · go_wp2
              go_ret3
              exact .no (fun _ => G.out false ⟨fun f => absurd f (by decide), fun f => by exfalso; omega⟩) HB2.out
            · go_wp2
              go_ret3
              exact .yes (by omega) HR2.out (G.out true ⟨fun _ => by omega, fun _ => rfl⟩) HB2.out
end Go.Proofs.YteecmcphbehfgaaGreatDoor
