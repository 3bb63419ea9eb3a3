/- utf8: the code point at the head of a text that is not empty. Conditions: texts of at most 1000000 bytes. -/
import Derived.Test.YteecmcphbehfgaaGreatDoorA3
import Derived.Deep.RegionLaw
namespace Go.Proofs.YteecmcphbehfgaaGreatDoor
open Go.RowKit Go.Lib

def lowC (n : Nat) : Int := if n = 1 then 0 else if n = 2 then 194 else if n = 3 then 224 else 240
def topC (n : Nat) : Int := if n = 1 then 127 else if n = 2 then 223 else if n = 3 then 239 else 244
def bitC (n : Nat) : Int := if n = 1 then 127 else if n = 2 then 31 else if n = 3 then 15 else 7
theorem row_of {n : Nat} (h1 : 1 ≤ n) (h4 : n ≤ 4) (w : World) : (Instr.index 128 (.agg clsA) (.int .i64 ((n : Int) - 1))).run Tryz.prog w = .ok (.agg #[.int .u8 (lowC n), .int .u8 (topC n), .int .u8 (bitC n), .int .i32 (minN n : Int), .int .i32 (maxN n : Int)]) w := by
  rcases (by omega : n = 1 ∨ n = 2 ∨ n = 3 ∨ n = 4) with rfl | rfl | rfl | rfl <;> kernel_rfl
theorem mask_of (c : UInt8) {n : Nat} (h1 : 1 ≤ n) (h4 : n ≤ 4) : bits BinOp.and IntKind.u8 (c.toNat : Int) (bitC n) = ((c.toNat % maskN n : Nat) : Int) := by
  have k1 : ∀ x : Fin 256, bits BinOp.and IntKind.u8 (x.val : Int) 127 = ((x.val % 128 : Nat) : Int) := by decide +kernel
  have k2 : ∀ x : Fin 256, bits BinOp.and IntKind.u8 (x.val : Int) 31 = ((x.val % 32 : Nat) : Int) := by decide +kernel
  have k3 : ∀ x : Fin 256, bits BinOp.and IntKind.u8 (x.val : Int) 15 = ((x.val % 16 : Nat) : Int) := by decide +kernel
  have k4 : ∀ x : Fin 256, bits BinOp.and IntKind.u8 (x.val : Int) 7 = ((x.val % 8 : Nat) : Int) := by decide +kernel
  rcases (by omega : n = 1 ∨ n = 2 ∨ n = 3 ∨ n = 4) with rfl | rfl | rfl | rfl
  · exact k1 ⟨c.toNat, c.toNat_lt⟩
  · exact k2 ⟨c.toNat, c.toNat_lt⟩
  · exact k3 ⟨c.toNat, c.toNat_lt⟩
  · exact k4 ⟨c.toNat, c.toNat_lt⟩
theorem mask_lt (c : UInt8) (n : Nat) : c.toNat % maskN n < 128 := by
  have : 0 < maskN n ∧ maskN n ≤ 128 := by unfold maskN; (repeat' split) <;> omega
  exact Nat.lt_of_lt_of_le (Nat.mod_lt _ this.1) this.2
theorem begins_any (s : ByteArray) (n : Nat) (h1 : 1 ≤ s.size) (hn : sizeB s[0] = n) (hsn : s.size ≤ n) (w : World) : Calls Tryz.prog 112 #[.string s] w (BegPost s n (s[0].toNat % maskN n) w) := by
  have h4 : n ≤ 4 := by rw [← hn]; exact sizeB_le _
  exact begins_gen s n _ (lowC n) (topC n) (bitC n) h1 hsn h4 hn (mask_lt _ _) (row_of (by omega) h4) (mask_of _ (by omega) h4) w

/-- The code point at the head and its size, or an error that is not 0. -/
def FirstPost (l : List UInt8) (w : World) (e : Ending) (w' : World) : Prop :=
  (match decL l with
   | some q => e = .returned (.tuple #[.int .i32 q.1, .int .i64 q.2, .int .i64 0])
   | none => ∃ c : Int, c ≠ 0 ∧ e = .returned (.tuple #[.int .i32 0, .int .i64 0, .int .i64 c])) ∧ Below w.heap.size w w'
theorem FirstPost.none {l : List UInt8} {w w' : World} {c : Int} (h : decL l = none) (hc : c ≠ 0) (hb : Below w.heap.size w w') : FirstPost l w (.returned (.tuple #[.int .i32 0, .int .i64 0, .int .i64 c])) w' := by
  refine ⟨?_, hb⟩
  rw [h]
  exact ⟨c, hc, rfl⟩
theorem FirstPost.some {l : List UInt8} {w w' : World} {q : Nat × Nat} (h : decL l = some q) (hb : Below w.heap.size w w') : FirstPost l w (.returned (.tuple #[.int .i32 q.1, .int .i64 q.2, .int .i64 0])) w' := by
  refine ⟨?_, hb⟩
  rw [h]

theorem data_cons (s : ByteArray) (h : 0 < s.size) : s.data.toList = s[0] :: tlB s := by
  have h0 : 0 < s.data.toList.length := by simpa using h
  have := List.drop_eq_getElem_cons h0
  rw [List.drop_zero] at this
  rw [this]
  rfl
theorem tlB_len (s : ByteArray) : (tlB s).length = s.size - 1 := by unfold tlB; rw [List.length_drop]; simp
theorem dec_size0 {s : ByteArray} (h : 0 < s.size) (hn : sizeB s[0] = 0) : decL s.data.toList = none := by rw [data_cons s h, decL, if_pos hn]
theorem dec_short {s : ByteArray} {n : Nat} (h : 0 < s.size) (hn : sizeB s[0] = n) (hs : s.size < n) : decL s.data.toList = none := by
  rw [data_cons s h, decL, if_neg (by omega), if_pos (by rw [tlB_len]; omega)]
theorem dec_good {s : ByteArray} {n : Nat} (h : 0 < s.size) (h1 : 1 ≤ n) (hn : sizeB s[0] = n) (hs : n ≤ s.size) (b : Bool) (hg : b = goodT n (s[0].toNat % maskN n) ((tlB s).take (n - 1))) : decL s.data.toList = if b = true then some (runeV ((tlB s).take (n - 1)) (s[0].toNat % maskN n), n) else none := by
  rw [data_cons s h, decL, if_neg (by omega), if_neg (by rw [tlB_len]; omega), hn, hg]
theorem ext_size (s : ByteArray) {n : Nat} (h : n ≤ s.size) : (s.extract 0 n).size = n := by simp; omega
theorem ext_head (s : ByteArray) {n : Nat} (h0 : 0 < n) (h : n ≤ s.size) (h' : 0 < (s.extract 0 n).size) : (s.extract 0 n)[0] = s[0] := by
  simp [ByteArray.getElem_extract]
theorem ext_tail (s : ByteArray) {n : Nat} (h0 : 0 < n) : tlB (s.extract 0 n) = (tlB s).take (n - 1) := by
  unfold tlB
  rw [ByteArray.data_extract, Array.toList_extract]
  show List.drop 1 ((List.drop 0 s.data.toList).take (n - 0)) = _
  rw [List.drop_zero, Nat.sub_zero, List.drop_take]

set_option maxRecDepth 100000 in
set_option maxHeartbeats 4000000 in
theorem first_any (s : ByteArray) (h1 : 1 ≤ s.size) (hs : s.size ≤ 1000000) (w : World) : Calls Tryz.prog 86 #[.string s] w (FirstPost s.data.toList w) := by
  have S := Lib.hid (sizeOf_any s[0])
  obtain ⟨n, hn⟩ : ∃ n, sizeB s[0] = n := ⟨_, rfl⟩
  rw [hn] at S
  have h4 : n ≤ 4 := by rw [← hn]; exact sizeB_le _
  have HN := Lib.hid hn
  clear hn
  by_cases hz : n = 0
  · subst hz
    have HD := Lib.hid (dec_size0 h1 HN.out)
    go_enter Tryz.func86, Tryz.ntmps86
    go_wp2_with fail
    refine (S.out _).mono ?_
    rintro e w1 ⟨rfl, hb1⟩
    have HB := Lib.hid hb1
    clear hb1
    go_wp2
    go_ret3
    exact .none HD.out (by decide) HB.out
  have n0 : ((n : Int) == 0) = false := by simp; omega
  by_cases hsn : s.size < n
  · have HD := Lib.hid (dec_short h1 HN.out hsn)
    have B := Lib.hid (begins_any s n h1 HN.out (by omega))
    go_enter Tryz.func86, Tryz.ntmps86
    go_wp2_with fail
    refine (S.out _).mono ?_
    rintro e w1 ⟨rfl, hb1⟩
    have HB := Lib.hid hb1
    clear hb1
    go_wp2_with fail
    refine (B.out _).mono ?_
    rintro e w2 ⟨b, rfl, hx, hb2⟩
    have HB2 := Lib.hid (HB.out.trans (hb2.mono HB.out.size))
    clear hb2 hx
    cases b
    all_goals
      go_wp2
      go_ret3
      exact .none HD.out (by decide) HB2.out
  have B := Lib.hid (begins_any (s.extract 0 n) n (by rw [ext_size s (by omega)]; omega) (by rw [ext_head s (by omega) (by omega)]; exact HN.out) (by rw [ext_size s (by omega)]; omega))
  have C := Lib.hid classes_any
  go_enter Tryz.func86, Tryz.ntmps86
  go_wp2_with fail
  refine (S.out _).mono ?_
  rintro e w1 ⟨rfl, hb1⟩
  have HB := Lib.hid hb1
  clear hb1
  go_wp2_with fail
  refine (B.out _).mono ?_
  rintro e w2 ⟨b, rfl, hx, hb2⟩
  have HB2 := Lib.hid (HB.out.trans (hb2.mono HB.out.size))
  have HX := Lib.hid (hx (ext_size s (by omega)))
  rw [ext_tail s (by omega), ext_head s (by omega) (by omega)] at HX
  have HD := Lib.hid (dec_good h1 (by omega) HN.out (by omega) b HX.out)
  clear hb2 hx HX
  cases b
  · go_wp2
    go_ret3
    exact .none (by rw [HD.out]; rfl) (by decide) HB2.out
  have hm := mask_of s[0] (n := n) (by omega) h4
  have hv := mask_lt s[0] n
  have hx := row_of (n := n) (by omega) h4
  obtain ⟨v, ev⟩ : ∃ v, s[0].toNat % maskN n = v := ⟨_, rfl⟩
  obtain ⟨la, ela⟩ : ∃ v, lowC n = v := ⟨_, rfl⟩
  obtain ⟨lb, elb⟩ : ∃ v, topC n = v := ⟨_, rfl⟩
  obtain ⟨mb, emb⟩ : ∃ v, bitC n = v := ⟨_, rfl⟩
  obtain ⟨mn, emn⟩ : ∃ v, minN n = v := ⟨_, rfl⟩
  obtain ⟨mx, emx⟩ : ∃ v, maxN n = v := ⟨_, rfl⟩
  rw [ev] at hv hm HD
  rw [ela, elb, emb, emn, emx] at hx
  rw [emb] at hm
  clear ela elb emb emn emx ev
  have hw : IntKind.i64.wrap ((n : Int) - 1) = (n : Int) - 1 := IntWalk.i64_in _ (by omega)
  rw [← hw] at hx
  clear hw
  have hf : ∀ w, (Instr.field 127 (.agg #[.int .u8 la, .int .u8 lb, .int .u8 mb, .int .i32 (mn : Int), .int .i32 (mx : Int)]) 2).run Tryz.prog w = .ok (.int .u8 mb) w := fun _ => by kernel_rfl
  go_wp2_with fail
  go_region_law (go_simp; go_at_call 87; refine (C.out _).mono ?_; rintro e w3 ⟨rfl, hb3⟩; have HB3 := Lib.hid (HB2.out.drew.trans (hb3.mono HB2.out.size)); clear hb3)
  all_goals
    clear hx hf hm S C B
    have X1 := Lib.hid (preV_one s v)
    go_wp2
    go_loop [10, 11] (fun v10 v11 => ∃ k r : Nat, 1 ≤ k ∧ k ≤ n ∧ v11 = .int .i64 k ∧ v10 = .int .i32 r ∧ (k = 1 → r < 128) ∧ (k = 2 → r < 8192) ∧ (k = 3 → r < 524288) ∧ r < 33554432 ∧ r = preV s k v) (fun _ v11 => n - (RowKit.intOf v11).toNat)
    case atStart => exact ⟨1, v, by omega, by omega, rfl, rfl, by omega, by omega, by omega, by omega, X1.out.symm⟩
    case round =>
      obtain ⟨k, r, hk1, hk2, rfl, rfl, q1, q2, q3, q4, hr⟩ := hrel
      have HR := Lib.hid hr
      clear hr
      by_cases hkn : k < n
      · have q5 : r < 524288 := by omega
        have hks : k < s.size := by omega
        have hcs := s[k].toNat_lt
        have HVS := Lib.hid (preV_step v hk1 hks)
        go_wp2
        go_round
        case rel => exact ⟨k + 1, r * 64 + s[k].toNat % 64, by omega, by omega, by go_num, by first | (simp; done) | (congr 1; omega), by omega, by omega, by omega, by omega, by rw [HVS.out, ← HR.out]⟩
        case measure => simp [RowKit.intOf]; omega
      · obtain rfl : k = n := by omega
        have HD2 : Hid (decL s.data.toList = some (r, k)) := Lib.hid (by rw [HD.out, if_pos trivial, HR.out]; rfl)
        go_wp2
        go_ret3
        exact .some HD2.out HB3.out
end Go.Proofs.YteecmcphbehfgaaGreatDoor
