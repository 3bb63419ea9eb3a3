/- article: the iterator over the lines of a text, and their number. Conditions: texts of at most 1000000 bytes. -/
import Derived.Test.YteecmcphbehfgaaGreatDoorP6
import Derived.Test.YteecmcphbehfgaaGreatDoorB1
namespace Go.Proofs.YteecmcphbehfgaaGreatDoor
open Go.RowKit Go.Lib Go.Shelf
attribute [local go_sem] Oper.semAt_some

def encN2 (x : Nat × List UInt8) : Array Value := #[.int .i64 x.1, .string (bsOf x.2)]
theorem ext_bs (s : ByteArray) (i j : Nat) : bsOf ((s.data.toList.drop i).take (j - i)) = s.extract i j := by
  have := strV_extract s i j
  unfold strV at this
  injection this with this
  exact this.symm
theorem ne_facts {s : ByteArray} (h : 0 < s.size) : s.toList ≠ [] ∧ s.toList.isEmpty = false ∧ (s.toList == []) = false := by
  have e1 : s.toList ≠ [] := by
    rw [Lib.toList_data]
    intro e
    have h2 : s.data.toList.length = s.size := by simp
    rw [e] at h2
    rw [← h2] at h
    exact absurd h (by decide)
  exact ⟨e1, by rw [List.isEmpty_eq_false_iff]; exact e1, by rw [← Bool.not_eq_true, beq_iff_eq]; exact e1⟩
set_option maxRecDepth 100000 in
set_option maxHeartbeats 4000000 in
theorem lines_iter (bx : Nat) (s : ByteArray) (hs : s.size ≤ 1000000) (m : Nat) (Z : Nat → Prop) (hZ : Z bx) (w0 : World) (hc : w0.heap[bx]? = some (.cells #[.string s] 9 (0, 0))) :
    IterAt Fence.wide m Tryz.prog 75 #[.pointer (some ⟨bx, 0, none⟩)] encN2 bx Z (lineI s.data.toList) w0 := by
  intro l J Jx W hsz hZW hJ hJx hY h0
  have hb0 := (hZW bx hZ).trans hc
  have HJ := Lib.hid hJ
  have HJX := Lib.hid hJx
  have HY := Lib.hid hY
  have HB0 := Lib.hid hb0
  clear hJ hJx hY hZW hb0
  refine callsIn_of_wp Tryz.func75 rfl trivial ?_ rfl
  simp only [Tryz.ntmps75, List.size_toArray, List.length_cons, List.length_nil, Nat.reduceAdd, Nat.reduceSub, Array.replicate_succ, Array.replicate_zero, List.push_toArray, List.append_toArray, List.nil_append, List.cons_append]
  gi_wp2
  gi_loopw [3] (fun v wr => ∃ (i : Nat) (pre : List (Nat × List UInt8)) (R : ByteArray), v = .int .i64 i ∧ LineAt s.data.toList i pre R.data.toList ∧ i + R.size ≤ s.size ∧ J pre wr ∧ wr.heap[bx]? = some (.cells #[.string R] 9 (0, 0))) (fun v _ => s.size + 1 - (RowKit.intOf v).toNat)
  case atStart => exact ⟨0, [], s, rfl, LineAt.zero _, by omega, h0, HB0.out⟩
  case round =>
    obtain ⟨i, pre, R, rfl, hr, hir, hj, hbx⟩ := hrel
    have c0 := cell_of_one hbx
    have f0 := free_of_one hbx
    have hbl := lt_of_block hbx
    have HR := Lib.hid hr
    have HJ1 := Lib.hid hj
    have HBX := Lib.hid hbx
    clear hr hj hbx
    by_cases hR : R.size = 0
    · obtain rfl : R = ⟨#[]⟩ := by
        apply ByteArray.ext
        exact Array.eq_empty_of_size_eq_zero hR
      have HN := Lib.hid HR.out.done
      gi_wp2
      go_end0
      exact ⟨⟨_, rfl⟩, .inl (by rw [HN.out]; exact HJ1.out)⟩
    · obtain ⟨n1, n2, n3⟩ := ne_facts (s := R) (by omega)
      have hnl : R.data.toList ≠ [] := by rw [← Lib.toList_data]; exact n1
      have HNL := Lib.hid hnl
      have CF := Lib.hid (cutn_any R (by omega))
      have hll : R.data.toList.length = R.size := by simp
      have HLL := Lib.hid hll
      obtain ⟨n, hn⟩ : ∃ n, spanL nlB R.data.toList 0 = n := ⟨_, rfl⟩
      have hnle : n ≤ R.size := by rw [← hn, ← hll]; exact spanL_le _ _ _ (Nat.zero_le _)
      have HN := Lib.hid hn
      clear hll hnl hn
      by_cases hz : n = R.size
      · have HNX := Lib.hid (HR.out.last HNL.out (by rw [HN.out, HLL.out]; exact hz))
        gi_wp2_with fail
        refine ⟨trivial, (fun h => by cases h), ?_⟩
        refine (callsIn_wide.2 (CF.out _)).mono ?_
        rintro e w1 ⟨he, hb1⟩
        rw [HN.out, if_pos hz] at he
        subst he
        have hj2 := HJ.out _ _ _ HJ1.out (below_box hb1)
        have hbx1 := (hb1.block _ hbl).trans HBX.out
        have HJ2 := Lib.hid hj2
        have HBX1 := Lib.hid hbx1
        obtain ⟨fn, tmps, assign, body, hy, hRd⟩ := HY.out pre (i, R.data.toList) w1 hj2 HNX.out.2
        dsimp only [encN2] at hy
        rw [bsOf_eta] at hy
        have HRD := Lib.hid hRd
        clear hb1 hj2 hRd hbx1 n1 n2 n3 hz
        gi_wp2_with fail
        refine ⟨(fun h => by cases h), HRD.out.mono ?_⟩
        rintro e w2 (⟨rfl, hj3, hs3, hz3⟩ | ⟨rfl, hx3⟩)
        · have hbx3 := (hz3 bx hZ).trans HBX1.out
          have c3 := cell_of_one hbx3
          have f3 := free_of_one hbx3
          have HB3 := Lib.hid hbx3
          have HJ3 := Lib.hid (HJ.out _ _ _ hj3 ((Kept.refl (fun k => k = bx) w2).setCell (p := ⟨bx, 0, none⟩) (fun _ => rfl) (.string ⟨#[]⟩)))
          clear hj3 hz3 HRD hy hbx3
          gi_wp2
          go_roundw
          case rel => exact ⟨i + 1, _, ⟨#[]⟩, by go_num, HNX.out.1, by show i + 1 + 0 ≤ s.size; omega, HJ3.out, one_setCell HB3.out⟩
          case measure => simp [RowKit.intOf]; omega
        · have HX3 := Lib.hid hx3
          clear hx3 HRD hy
          gi_wp2
          refine bodyPost_ret (results_none rfl _ _ _) rfl ?_
          exact ⟨⟨_, rfl⟩, .inr ⟨_, HNX.out.2, HX3.out⟩⟩
      · have HNX0 := HR.out.next HNL.out (by rw [HN.out, HLL.out]; exact hz)
        rw [HN.out] at HNX0
        have HNX := Lib.hid HNX0
        have het : bsOf (R.data.toList.take n) = R.extract 0 n := ext_bs R 0 n
        have hed := ext_drop R (n + 1)
        have hes : (R.extract (n + 1) R.size).size = R.size - (n + 1) := by simp
        have HET := Lib.hid het
        have HED := Lib.hid hed
        clear HNX0 het hed
        gi_wp2_with fail
        refine ⟨trivial, (fun h => by cases h), ?_⟩
        refine (callsIn_wide.2 (CF.out _)).mono ?_
        rintro e w1 ⟨he, hb1⟩
        rw [HN.out, if_neg hz] at he
        subst he
        have hj2 := HJ.out _ _ _ HJ1.out (below_box hb1)
        have hbx1 := (hb1.block _ hbl).trans HBX.out
        have HJ2 := Lib.hid hj2
        have HBX1 := Lib.hid hbx1
        obtain ⟨fn, tmps, assign, body, hy, hRd⟩ := HY.out pre (i, R.data.toList.take n) w1 hj2 HNX.out.2
        dsimp only [encN2] at hy
        rw [HET.out] at hy
        have HRD := Lib.hid hRd
        have hnlt : n < R.size := by omega
        clear hb1 hj2 hRd hbx1 n1 n2 n3 hz
        gi_wp2_with fail
        refine ⟨(fun h => by cases h), HRD.out.mono ?_⟩
        rintro e w2 (⟨rfl, hj3, hs3, hz3⟩ | ⟨rfl, hx3⟩)
        · have hbx3 := (hz3 bx hZ).trans HBX1.out
          have c3 := cell_of_one hbx3
          have f3 := free_of_one hbx3
          have HB3 := Lib.hid hbx3
          have HJ3 := Lib.hid (HJ.out _ _ _ hj3 ((Kept.refl (fun k => k = bx) w2).setCell (p := ⟨bx, 0, none⟩) (fun _ => rfl) (.string (R.extract (n + 1) R.size))))
          clear hj3 hz3 HRD hy hbx3
          gi_wp2
          go_roundw
          case rel => exact ⟨i + 1, _, R.extract (n + 1) R.size, by go_num, by rw [HED.out]; exact HNX.out.1, by omega, HJ3.out, one_setCell HB3.out⟩
          case measure => simp [RowKit.intOf]; omega
        · have HX3 := Lib.hid hx3
          clear hx3 HRD hy
          gi_wp2
          refine bodyPost_ret (results_none rfl _ _ _) rfl ?_
          exact ⟨⟨_, rfl⟩, .inr ⟨_, HNX.out.2, HX3.out⟩⟩
theorem lines_any (s : ByteArray) (w : World) : Calls Tryz.prog 48 #[.string s] w fun e w' => e = .returned (.func (.func 75) #[] #[.pointer (some ⟨w.heap.size, 0, none⟩)]) ∧ w' = w.alloc (.cells #[.string s] 9) := by
  go_enter Tryz.func48, Tryz.ntmps48
  go_wp2
  go_ret
  exact ⟨rfl, rfl⟩
end Go.Proofs.YteecmcphbehfgaaGreatDoor
