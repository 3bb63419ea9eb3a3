/- utf8, the document's side: all code points with their offsets, and the first byte of a line that is not permitted. Conditions: texts of at most 1000000 bytes. -/
import Derived.Test.YteecmcphbehfgaaGreatDoorA11
import Derived.Test.YteecmcphbehfgaaGreatDoorA6
import Derived.Deep.AppendLies
namespace Go.Proofs.YteecmcphbehfgaaGreatDoor
open Go.RowKit Go.Lib

theorem Tryz.int_info : (Tryz.prog.info? 3).map (fun i => (i.zero, i.size, i.bytes)) = some (some (.int .i64 0), 1, 8) := by kernel_rfl
def natV (n : Nat) : Value := .int .i64 (n : Int)
/-- All hands back the code points, their offsets and the first error. -/
def AllPost (l : List UInt8) (w : World) (e : Ending) (w' : World) : Prop :=
  ∃ v1 v2 at' c, e = .returned (.tuple #[v1, v2, .int .i64 at', .int .i64 c]) ∧ w'.ownsRow w.heap.size 3 1 v1 (runesL l).length ((runesL l).map fun x => natV x.2) ∧ w'.ownsRow w.heap.size 3 1 v2 (runesL l).length ((runesL l).map fun x => natV x.1) ∧
    (match errL l with | none => c = 0 | some a => c ≠ 0 ∧ at' = (a : Nat)) ∧ Below w.heap.size w w'

set_option maxRecDepth 100000 in
set_option maxHeartbeats 4000000 in
theorem rall_any (s : ByteArray) (hs : s.size ≤ 1000000) (w : World) : Calls Tryz.prog 63 #[.string s] w (AllPost s.data.toList w) := by
  have hll : s.data.toList.length = s.size := by simp
  have HLL := Lib.hid hll
  obtain ⟨i0, hi, hz0, hz1, hz2⟩ := info_parts Tryz.int_info
  have HI := Lib.hid hi
  have HZ0 := Lib.hid hz0
  have HZ1 := Lib.hid hz1
  have HZ2 := Lib.hid hz2
  clear hll hi hz0 hz1 hz2
  go_enter Tryz.func63, Tryz.ntmps63
  go_wp2
  go_loopw [6, 7, 8] (fun v6 v7 v8 wr => ∃ (a : Nat) (pre : List (Nat × Nat)) (g1 g2 : Option Nat), v8 = .int .i64 a ∧ RuneAt s.data.toList a pre ∧ ErrAt s.data.toList a (errL s.data.toList) ∧ pre.length ≤ a ∧ wr.ownsRow w.heap.size 3 1 v6 pre.length (pre.map fun x => natV x.2) ∧ wr.ownsRow w.heap.size 3 1 v7 pre.length (pre.map fun x => natV x.1) ∧ v6.ownBlock = g1 ∧ v7.ownBlock = g2 ∧ (g1 = none ∨ g1 ≠ g2) ∧ Below w.heap.size w wr) (fun _ _ v _ => s.size - (RowKit.intOf v).toNat)
  case atStart => exact ⟨0, [], none, none, rfl, RuneAt.zero _, ErrAt.zero _, Nat.le_refl _, ⟨rfl, .inl ⟨rfl, rfl⟩⟩, ⟨rfl, .inl ⟨rfl, rfl⟩⟩, rfl, rfl, .inl rfl, Below.refl _ _⟩
  case round =>
    obtain ⟨a, pre, g1, g2, rfl, hr, he, hpl, ho1, ho2, hg1, hg2, hne, hb⟩ := hrel
    obtain ⟨A1, cap1, rfl⟩ := own_shape ho1
    obtain ⟨A2, cap2, rfl⟩ := own_shape ho2
    have ha : a ≤ s.size := by rw [← HLL.out]; exact he.1
    have HR := Lib.hid hr
    have HE := Lib.hid he
    have HO1 := Lib.hid ho1
    have HO2 := Lib.hid ho2
    have HG1 := Lib.hid hg1
    have HG2 := Lib.hid hg2
    have HNE := Lib.hid hne
    have HB := Lib.hid hb
    clear hr he ho1 ho2 hg1 hg2 hne hb
    by_cases hlt : a < s.size
    · have hx := ext_drop s a
      have hxs : (s.extract a s.size).size = s.size - a := by simp
      have CF := Lib.hid (rfirst_any (s.extract a s.size) (by omega) (by omega))
      rw [hx] at CF
      have hlt' : a < s.data.toList.length := by rw [HLL.out]; exact hlt
      clear hx hxs
      cases hd : decL (s.data.toList.drop a) with
      | none =>
        have HN := Lib.hid (HR.out.no hd)
        have HN2 := Lib.hid (HE.out.no hlt' hd)
        have HD := Lib.hid hd
        clear hd hlt'
        go_wp2_with fail
        refine (CF.out _).mono ?_
        rintro e w1 ⟨he, hb1⟩
        rw [HD.out] at he
        obtain ⟨c, hc0, rfl⟩ := he
        have hcb : (c != 0) = true := by simp [hc0]
        have HB1 := Lib.hid (HB.out.trans (hb1.mono HB.out.size))
        have HO1' := Lib.hid (own_kept HO1.out (kept_of_below hb1) (fun _ _ f => f))
        have HO2' := Lib.hid (own_kept HO2.out (kept_of_below hb1) (fun _ _ f => f))
        clear hb1
        have HC0 := Lib.hid hc0
        clear hc0
        go_wp2
        refine bodyPost_ret (v := .tuple #[.slice A1 pre.length cap1, .slice A2 pre.length cap2, .int .i64 a, .int .i64 c]) (by simp [results, Tryz.f63, go_sem]) rfl ?_
        refine ⟨_, _, _, _, rfl, ?_, ?_, ?_, HB1.out⟩
        · rw [HN.out]; exact HO1'.out
        · rw [HN.out]; exact HO2'.out
        · rw [HN2.out]; exact ⟨HC0.out, rfl⟩
      | some q =>
        have hnx := HE.out.step hlt' hd
        have hnr := HR.out.next hlt' hd
        have hz := drop_size hd
        rw [HLL.out] at hz
        have HNX := Lib.hid hnx
        have HNR := Lib.hid hnr
        have HD := Lib.hid hd
        obtain ⟨qr, qn⟩ := q
        simp only at hz
        clear hd hnx hlt' hnr
        go_wp2_with fail
        refine (CF.out _).mono ?_
        rintro e w1 ⟨he, hb1⟩
        rw [HD.out] at he
        subst he
        have HB1 := Lib.hid (HB.out.trans (hb1.mono HB.out.size))
        have HO1' := Lib.hid (own_kept HO1.out (kept_of_below hb1) (fun _ _ f => f))
        have HO2' := Lib.hid (own_kept HO2.out (kept_of_below hb1) (fun _ _ f => f))
        clear hb1
        have hwz := HB1.out.size
        go_wp2_with (first
          | (at_builtin; refine wpList_append_lies _ rfl _ _ 101 rfl w.heap.size 3 i0 (.int .i64 0) 1 8 Tryz.underlying101 HI.out HZ0.out HZ1.out HZ2.out rfl (by decide) (.slice A1 pre.length cap1) pre.length _ rfl (own_kept HO1'.out ((Kept.refl (fun _ => False) w1).alloc _) (fun _ _ f => f)) ⟨w1.heap.size, 0, none⟩ 1 1 [.int .i64 qr] rfl rfl (new_cells _ _ _) (fun u hu => by rw [List.mem_singleton.1 hu]; rfl) (by decide) (by unfold maxLen; omega) (by omega) (by rw [World.size_alloc]; omega) (w1.heap.size + 1) (by simp) ?_; intro g1' cap1' wA hoA hgA hwA hltA; have HOA := Lib.hid hoA; have HKA := Lib.hid (((Kept.refl (fun k => g1 = some k) w1).alloc (.cells #[.int .i64 qr] 3)).grown hgA (fun k _ e => HG1.out.symm.trans e)); have HWA := Lib.hid hwA; have hszA := hgA.size; rw [World.size_alloc] at hszA; clear hoA hgA hwA)
          | (at_builtin; refine wpList_append_lies _ rfl _ _ 101 rfl w.heap.size 3 i0 (.int .i64 0) 1 8 Tryz.underlying101 HI.out HZ0.out HZ1.out HZ2.out rfl (by decide) (.slice A2 pre.length cap2) pre.length _ rfl (own_kept HO2'.out (HKA.out.alloc _) (fun k hk f => (HNE.out).elim (fun e => by rw [e] at f; cases f) (fun e => e (by rw [f, ← HG2.out, hk])))) ⟨wA.heap.size, 0, none⟩ 1 1 [.int .i64 a] rfl rfl (new_cells _ _ _) (fun u hu => by rw [List.mem_singleton.1 hu]; rfl) (by decide) (by unfold maxLen; omega) (by omega) (by rw [World.size_alloc]; omega) (wA.heap.size + 1) (by simp) ?_; intro g2' cap2' wB hoB hgB hwB hltB; have HOB := Lib.hid hoB; have HKB := Lib.hid (((Kept.refl (fun k => g2 = some k) wA).alloc (.cells #[.int .i64 a] 3)).grown hgB (fun k _ e => HG2.out.symm.trans e)); have HWB := Lib.hid hwB; clear hoB hgB hwB))
        have hl1 := own_lt HO1'.out
        have hl2 := own_lt HO2'.out
        have hb2 := own_lt HOA.out
        have hszB := HKB.out.size
        -- where the two rows lie
        have L1 : Hid (g1 = some g1' ∨ g1' = w1.heap.size + 1) := Lib.hid (HWA.out.imp (fun e => HG1.out.symm.trans e) id)
        have L2 : Hid (g2 = some g2' ∨ g2' = wA.heap.size + 1) := Lib.hid (HWB.out.imp (fun e => HG2.out.symm.trans e) id)
        have hg2lt : ∀ k, g2 = some k → w.heap.size ≤ k ∧ k < w1.heap.size := fun k e => hl2 k (HG2.out.trans e)
        have hg1lt : ∀ k, g1 = some k → w.heap.size ≤ k ∧ k < w1.heap.size := fun k e => hl1 k (HG1.out.trans e)
        have hapart : g1' ≠ g2' := by
          intro e
          rcases L1.out with e1 | e1 <;> rcases L2.out with e2 | e2
          · rcases HNE.out with h | h
            · rw [h] at e1; cases e1
            · exact h (e1.trans (e ▸ e2.symm))
          · have := hg1lt _ e1; omega
          · have := hg2lt _ e2; omega
          · omega
        have hA2 : ¬ (g2 = some g1') := by
          intro e2
          rcases L1.out with e1 | e1
          · rcases HNE.out with h | h
            · rw [h] at e1; cases e1
            · exact h (e1.trans e2.symm)
          · have := hg2lt _ e2; omega
        have HOA' := Lib.hid (own_kept HOA.out HKB.out (fun k hk f => by injection hk with hk; have hk' : g1' = k := hk; exact hA2 (by rw [hk']; exact f)))
        have HBB := Lib.hid ((HB1.out.trans (HKA.out.toBelow (fun k e => (hg1lt k e).1) hwz)).trans (HKB.out.toBelow (fun k e => (hg2lt k e).1) (by omega)))
        clear hl1 hl2 hb2 hg2lt hg1lt hA2
        go_wp2
        go_roundw
        case rel =>
          refine ⟨a + qn, pre ++ [(a, qr)], some g1', some g2', by go_num, HNR.out.1, HNX.out, by simp; omega, ?_, ?_, rfl, rfl, .inr (fun e => hapart (Option.some.inj e)), HBB.out⟩
          · have := HOA'.out; simpa [natV] using this
          · have := HOB.out; simpa [natV] using this
        case measure => simp [RowKit.intOf]; omega
    · have HN := Lib.hid (HE.out.done (by rw [HLL.out]; omega))
      have HN2 := Lib.hid (HR.out.done (by rw [HLL.out]; omega))
      go_wp2
      refine bodyPost_ret (v := .tuple #[.slice A1 pre.length cap1, .slice A2 pre.length cap2, .int .i64 0, .int .i64 0]) (by simp [results, Tryz.f63, go_sem]) rfl ?_
      refine ⟨_, _, _, _, rfl, ?_, ?_, ?_, HB.out⟩
      · rw [HN2.out]; exact HO1.out
      · rw [HN2.out]; exact HO2.out
      · rw [HN.out]
end Go.Proofs.YteecmcphbehfgaaGreatDoor
