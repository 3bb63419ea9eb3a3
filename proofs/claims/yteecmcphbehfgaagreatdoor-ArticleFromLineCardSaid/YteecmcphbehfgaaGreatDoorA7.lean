/- utf8: the iterator over the code points. Conditions: texts of at most 1000000 bytes. -/
import Derived.Test.YteecmcphbehfgaaGreatDoorP4
import Derived.Test.YteecmcphbehfgaaGreatDoorA4
import Derived.Test.YteecmcphbehfgaaGreatDoorRng
namespace Go.Proofs.YteecmcphbehfgaaGreatDoor
open Go.RowKit Go.Lib Go.Shelf
attribute [local go_sem] Oper.semAt_some

theorem below_box {B : Nat} {w w' : World} (h : Below w.heap.size w w') : Kept (fun k => k = B) w w' := ⟨h.os, h.tape, h.output, h.size, fun k hk _ => h.block k hk⟩
def encR (x : Nat × Nat) : Array Value := #[.int .i64 x.1, .int .i32 x.2]
set_option maxRecDepth 100000 in
set_option maxHeartbeats 4000000 in
theorem runes_iter (bx : Nat) (s : ByteArray) (hs : s.size ≤ 1000000) (m : Nat) (Z : Nat → Prop) (hZ : Z bx) (w0 : World) (hc : w0.heap[bx]? = some (.cells #[.string s] 9 (0, 0))) :
    IterAt Fence.wide m Tryz.prog 85 #[.pointer (some ⟨bx, 0, none⟩)] encR bx Z (runesL s.data.toList) w0 := by
  intro l J Jx W hsz hZW hJ hJx hY h0
  have hll : s.data.toList.length = s.size := by simp
  have hb0 := (hZW bx hZ).trans hc
  have HJ := Lib.hid hJ
  have HJX := Lib.hid hJx
  have HY := Lib.hid hY
  have HLL := Lib.hid hll
  have HB0 := Lib.hid hb0
  clear hJ hJx hY hZW hll hb0
  refine callsIn_of_wp Tryz.func85 rfl trivial ?_ rfl
  simp only [Tryz.ntmps85, List.size_toArray, List.length_cons, List.length_nil, Nat.reduceAdd, Nat.reduceSub, Array.replicate_succ, Array.replicate_zero, List.push_toArray, List.append_toArray, List.nil_append, List.cons_append]
  gi_wp2
  gi_loopw [3] (fun v wr => ∃ (a : Nat) (pre : List (Nat × Nat)), v = .int .i64 a ∧ RuneAt s.data.toList a pre ∧ J pre wr ∧ wr.heap[bx]? = some (.cells #[.string s] 9 (0, 0))) (fun v _ => s.size - (RowKit.intOf v).toNat)
  case atStart => exact ⟨0, [], rfl, RuneAt.zero _, h0, HB0.out⟩
  case round =>
    obtain ⟨a, pre, rfl, hr, hj, hbx⟩ := hrel
    have c0 := cell_of_one hbx
    have hbl := lt_of_block hbx
    have ha : a ≤ s.size := by rw [← HLL.out]; exact hr.1
    have HR := Lib.hid hr
    have HJ1 := Lib.hid hj
    have HBX := Lib.hid hbx
    clear hr hj hbx
    by_cases hlt : a < s.size
    · have hx : (s.extract a s.size).data.toList = s.data.toList.drop a := by
        rw [ByteArray.data_extract, Array.toList_extract]
        show ((s.data.toList.drop a).take (s.size - a)) = _
        rw [List.take_of_length_le (by rw [List.length_drop, HLL.out]; omega)]
      have hxs : (s.extract a s.size).size = s.size - a := by simp
      have CF := Lib.hid (first_any (s.extract a s.size) (by omega) (by omega))
      rw [hx] at CF
      clear hx hxs
      cases hd : decL (s.data.toList.drop a) with
      | none =>
        have HN := Lib.hid (HR.out.no hd)
        have HD := Lib.hid hd
        clear hd
        gi_wp2_with fail
        refine ⟨trivial, (fun h => by cases h), ?_⟩
        refine (callsIn_wide.2 (CF.out _)).mono ?_
        rintro e w1 ⟨he, hb1⟩
        rw [HD.out] at he
        obtain ⟨c, hc0, rfl⟩ := he
        have hcb : (c != 0) = true := by simp [hc0]
        have HJ2 := Lib.hid (HJ.out _ _ _ HJ1.out (below_box hb1))
        clear hb1 hc0
        gi_wp2
        refine ⟨fun _ h => (by cases h), ?_⟩
        gi_wp2
        refine bodyPost_ret (results_none rfl _ _ _) rfl ?_
        exact ⟨⟨_, rfl⟩, .inl (by rw [HN.out]; exact HJ2.out)⟩
      | some q =>
        have hlt' : a < s.data.toList.length := by rw [HLL.out]; exact hlt
        have hnx := HR.out.next hlt' hd
        have hz := drop_size hd
        rw [HLL.out] at hz
        have HNX := Lib.hid hnx
        have HD := Lib.hid hd
        obtain ⟨qr, qn⟩ := q
        simp only at hz
        clear hd hnx hlt'
        gi_wp2_with fail
        refine ⟨trivial, (fun h => by cases h), ?_⟩
        refine (callsIn_wide.2 (CF.out _)).mono ?_
        rintro e w1 ⟨he, hb1⟩
        rw [HD.out] at he
        subst he
        have hj2 := HJ.out _ _ _ HJ1.out (below_box hb1)
        have hbx1 := (hb1.block _ hbl).trans HBX.out
        have HJ2 := Lib.hid hj2
        obtain ⟨fn, tmps, assign, body, hy, hR⟩ := HY.out pre (a, qr) w1 hj2 HNX.out.2
        dsimp only [encR] at hy
        have HRD := Lib.hid hR
        clear hb1 hj2 hR
        gi_wp2_with fail
        refine ⟨(fun h => by cases h), HRD.out.mono ?_⟩
        rintro e w2 (⟨rfl, hj3, hs3, hz3⟩ | ⟨rfl, hx3⟩)
        · have HJ3 := Lib.hid hj3
          have HB3 := Lib.hid ((hz3 bx hZ).trans hbx1)
          clear hj3 hz3 HRD hy
          gi_wp2
          go_roundw
          case rel => exact ⟨a + qn, pre ++ [(a, qr)], by go_num, HNX.out.1, HJ3.out, HB3.out⟩
          case measure => simp [RowKit.intOf]; omega
        · have HX3 := Lib.hid hx3
          clear hx3 HRD hy
          gi_wp2
          refine bodyPost_ret (results_none rfl _ _ _) rfl ?_
          exact ⟨⟨_, rfl⟩, .inr ⟨_, HNX.out.2, HX3.out⟩⟩
    · have HN := Lib.hid (HR.out.done (by rw [HLL.out]; omega))
      gi_wp2
      go_end0
      exact ⟨⟨_, rfl⟩, .inl (by rw [HN.out]; exact HJ1.out)⟩
end Go.Proofs.YteecmcphbehfgaaGreatDoor
