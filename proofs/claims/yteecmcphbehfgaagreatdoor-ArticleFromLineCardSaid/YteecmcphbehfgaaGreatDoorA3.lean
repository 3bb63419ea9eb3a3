/- utf8: begins. Conditions: at least one byte and at most as many as the first tells. -/
import Derived.Test.YteecmcphbehfgaaGreatDoorP1
import Derived.Deep.DeepFit
import Derived.Lib.Builder
import Derived.Laws.BitsAll
namespace Go.Proofs.YteecmcphbehfgaaGreatDoor
open Go.RowKit Go.Lib

/-- begins tells the size, and whether the bytes are an encoding where all are there. -/
def BegPost (s : ByteArray) (n v : Nat) (w : World) (e : Ending) (w' : World) : Prop := ∃ b : Bool, e = .returned (.tuple #[.int .i64 n, .bool b]) ∧ (s.size = n → b = goodT n v (tlB s)) ∧ Below w.heap.size w w'
theorem BegPost.mk {s : ByteArray} {n v : Nat} {w w' : World} {b : Bool} (h : s.size = n → b = goodT n v (tlB s)) (hb : Below w.heap.size w w') : BegPost s n v w (.returned (.tuple #[.int .i64 n, .bool b])) w' := ⟨b, rfl, h, hb⟩
theorem good_of {s : ByteArray} {n v : Nat} {LO HI : Int} {b : Bool} (hn : s.size = n) (hv : n ≤ s.size → preC s n = true) {lo hi : Nat} (hlo : n ≤ s.size → lo = hi ∧ lo = preV s n v) (m1 : (if lo < minN n then ((minN n : Nat) : Int) else (lo : Int)) = LO) (m2 : (if maxN n < hi then ((maxN n : Nat) : Int) else (hi : Int)) = HI) (hb : b = true ↔ ¬ (55296 ≤ LO ∧ HI ≤ 57343) ∧ LO ≤ HI) : b = goodT n v (tlB s) := by
  obtain ⟨h1, h2⟩ := hlo (by omega)
  have h3 := hv (by omega)
  subst hn
  rw [preC_all] at h3
  rw [preV_all] at h2
  unfold goodT
  rw [h3, Bool.true_and, ← h2, Bool.eq_iff_iff, hb, scalB_iff]
  split at m1 <;> split at m2 <;> omega

set_option maxRecDepth 100000 in
set_option maxHeartbeats 4000000 in
theorem begins_gen (s : ByteArray) (n v : Nat) (la lb mb : Int) (h1 : 1 ≤ s.size) (hsn : s.size ≤ n) (hn4 : n ≤ 4) (hn : sizeB s[0] = n) (hv : v < 128)
    (hx : ∀ w, (Instr.index 128 (.agg clsA) (.int .i64 ((n : Int) - 1))).run Tryz.prog w = .ok (.agg #[.int .u8 la, .int .u8 lb, .int .u8 mb, .int .i32 (minN n : Int), .int .i32 (maxN n : Int)]) w)
    (hm : bits BinOp.and IntKind.u8 (s[0].toNat : Int) mb = (v : Int)) (w : World) :
    Calls Tryz.prog 112 #[.string s] w (BegPost s n v w) := by
  have C := Lib.hid classes_any
  have S := Lib.hid (sizeOf_any s[0])
  rw [hn] at S
  obtain ⟨mn, hmn⟩ : ∃ x, minN n = x := ⟨_, rfl⟩
  obtain ⟨mx, hmx⟩ : ∃ x, maxN n = x := ⟨_, rfl⟩
  have hmn1 : mn ≤ 65536 := by rw [← hmn]; unfold minN; (repeat' split) <;> omega
  have hmx1 : mx ≤ 1114111 := by rw [← hmx]; unfold maxN; (repeat' split) <;> omega
  rw [hmn, hmx] at hx
  have HMN := Lib.hid hmn
  have HMX := Lib.hid hmx
  clear hn hmn hmx
  have n0 : ((n : Int) == 0) = false := by simp; omega
  have n1 : decide (n < s.size) = false := by simp; omega
  go_enter Tryz.func112, Tryz.ntmps112
  go_wp2_with fail
  refine (S.out _).mono ?_
  rintro e w1 ⟨rfl, hb1⟩
  have HB := Lib.hid hb1
  clear hb1
  go_wp2_with fail
  refine (C.out _).mono ?_
  rintro e w2 ⟨rfl, hb2⟩
  have HB2 := Lib.hid (HB.out.trans (hb2.mono HB.out.size))
  clear hb2
  go_wp2
  have H3 : (w2.alloc (Obj.cells #[.int .u8 la, .int .u8 lb, .int .u8 mb, .int .i32 mn, .int .i32 mx] 127)).heap[w2.heap.size]? = some (.cells #[.int .u8 la, .int .u8 lb, .int .u8 mb, .int .i32 mn, .int .i32 mx] 127 (0, 0)) := heap_alloc_new w2 _
  have HB3 := Lib.hid (HB2.out.alloc HB2.out.size (Obj.cells #[.int .u8 la, .int .u8 lb, .int .u8 mb, .int .i32 mn, .int .i32 mx] 127))
  obtain ⟨w3, e3⟩ : ∃ x, x = (w2.alloc (Obj.cells #[.int .u8 la, .int .u8 lb, .int .u8 mb, .int .i32 mn, .int .i32 mx] 127)) := ⟨_, rfl⟩
  rw [← e3] at H3 HB3 ⊢
  have lt3 : w2.heap.size < w3.heap.size := by rw [e3]; simp
  have H3 := Lib.hid H3
  have c2 : w3.cell? ⟨w2.heap.size, 2, none⟩ = some (.int .u8 mb) := by rw [Lib.cell_of_heap H3.out]; rfl
  go_region
  all_goals try rw [← e3]
  have hv1 := preV_one s v
  have hc1 := preC_one s
  have X1 := Lib.hid hv1
  have X2 := Lib.hid hc1
  clear hv1 hc1 hx
  go_wp2
  go_loopw [6, 7, 8] (fun v6 v7 v8 wr => ∃ k lo hi : Nat, 1 ≤ k ∧ k ≤ n ∧ v8 = .int .i64 k ∧ v6 = .int .i32 lo ∧ v7 = .int .i32 hi ∧ lo ≤ hi ∧ (k = 1 → hi < 128) ∧ (k = 2 → hi < 8192) ∧ (k = 3 → hi < 524288) ∧ hi < 33554432 ∧ (k ≤ s.size → lo = hi ∧ lo = preV s k v) ∧ (k ≤ s.size → preC s k = true) ∧ Below w3.heap.size w3 wr) (fun _ _ v8 _ => n - (RowKit.intOf v8).toNat)
  case atStart => exact ⟨1, v, v, by omega, by omega, rfl, rfl, rfl, by omega, by omega, by omega, by omega, by omega, fun _ => ⟨rfl, X1.out.symm⟩, fun _ => X2.out, (Below.refl _ _).drew⟩
  case round =>
    obtain ⟨k, lo, hi, hk1, hk2, rfl, rfl, rfl, hlh, q1, q2, q3, q4, hval, hco, hbk⟩ := hrel
    have HK := Lib.hid hbk
    have HV := Lib.hid hval
    have HC := Lib.hid hco
    clear hbk hval hco
    have HW := Lib.hid (HB3.out.trans (HK.out.mono HB3.out.size))
    by_cases hkn : k < n
    · have q5 : hi < 524288 := by omega
      by_cases hks : k < s.size
      · have hcs := s[k].toNat_lt
        have HVS := Lib.hid (preV_step v hk1 hks)
        have HCS := Lib.hid (preC_step hk1 hks)
        by_cases hcb : 128 ≤ s[k].toNat ∧ s[k].toNat ≤ 191
        · have hsh : ((s[k].toNat : Int) / 64 != 2) = false := by simp; omega
          have HCB : Hid (contU s[k] = true) := Lib.hid (by unfold contU; simp; omega)
          go_wp2
          go_region
          go_wp2
          go_roundw
          case rel => exact ⟨k + 1, lo * 64 + s[k].toNat % 64, hi * 64 + s[k].toNat % 64, by omega, by omega, by go_num, by first | (simp; done) | (congr 1; omega), by first | (simp; done) | (congr 1; omega), by omega, by omega, by omega, by omega, by omega, fun _ => by have h1 := HV.out (by omega); rw [HVS.out, ← h1.2, h1.1]; exact ⟨rfl, rfl⟩, fun _ => by rw [HCS.out, HC.out (by omega), HCB.out]; rfl, HK.out.drew⟩
          case measure => simp [RowKit.intOf]; omega
        · have hsh : ((s[k].toNat : Int) / 64 != 2) = true := by simp; omega
          have HCB : Hid (contU s[k] = false) := Lib.hid (by rw [← Bool.not_eq_true]; unfold contU; simp; omega)
          go_wp2
          go_ret2
          exact .mk (fun _ => by unfold goodT; rw [preC_bad hk1 hks HCB.out]; rfl) HW.out
      · go_wp2
        go_roundw
        case rel => exact ⟨k + 1, lo * 64, hi * 64 + 63, by omega, by omega, by go_num, by first | (simp; done) | (congr 1; omega), by first | (simp; done) | (congr 1; omega), by omega, by omega, by omega, by omega, by omega, fun h => absurd h (by omega), fun h => absurd h (by omega), HK.out⟩
        case measure => simp [RowKit.intOf]; omega
    · obtain rfl : k = n := by omega
      have c3 : wr.cell? ⟨w2.heap.size, 3, none⟩ = some (.int .i32 mn) := by rw [Lib.cell_of_heap ((HK.out.block _ lt3).trans H3.out)]; rfl
      have c4 : wr.cell? ⟨w2.heap.size, 4, none⟩ = some (.int .i32 mx) := by rw [Lib.cell_of_heap ((HK.out.block _ lt3).trans H3.out)]; rfl
      obtain ⟨LO, m1⟩ : ∃ x : Int, (if lo < mn then (mn : Int) else (lo : Int)) = x := ⟨_, rfl⟩
      obtain ⟨HI, m2⟩ : ∃ x : Int, (if mx < hi then (mx : Int) else (hi : Int)) = x := ⟨_, rfl⟩
      go_wp2
      go_region
      have M1 := Lib.hid m1
      have M2 := Lib.hid m2
      have HLH := Lib.hid hlh
      clear m1 m2 hlh q1 q2 q3 q4
      have G := Lib.hid (fun (b : Bool) (hz : s.size = k) => good_of (b := b) (LO := LO) (HI := HI) hz HC.out HV.out (by rw [HMN.out]; exact M1.out) (by rw [HMX.out]; exact M2.out))
      clear H3 c3 c4 hm hv hmx1 hmn1
      by_cases t1 : 55296 ≤ LO
      · by_cases t2 : HI ≤ 57343
        · go_wp2
          all_goals go_ret2
          all_goals exact .mk (fun hz => G.out _ hz (by simp; omega)) HW.out.drew
        · by_cases t3 : LO ≤ HI
          · go_wp2
            all_goals go_ret2
            all_goals exact .mk (fun hz => G.out _ hz (by simp; omega)) HW.out.drew
          · go_wp2
            all_goals go_ret2
            all_goals exact .mk (fun hz => G.out _ hz (by simp; omega)) HW.out.drew
      · by_cases t3 : LO ≤ HI
        · go_wp2
          all_goals go_ret2
          all_goals exact .mk (fun hz => G.out _ hz (by simp; omega)) HW.out.drew
        · go_wp2
          all_goals go_ret2
          all_goals exact .mk (fun hz => G.out _ hz (by simp; omega)) HW.out.drew
end Go.Proofs.YteecmcphbehfgaaGreatDoor
