/- article: Print. Conditions: texts of at most 1000000 bytes. -/
import Derived.Test.YteecmcphbehfgaaGreatDoorB6
namespace Go.Proofs.YteecmcphbehfgaaGreatDoor
open Go.RowKit Go.Lib

/-- The text of an article, or an error. -/
def aprS (fs : List (List UInt8 × List UInt8)) (b : List UInt8) : List UInt8 × Int :=
  if (printS fs).2 ≠ 0 then ([], (printS fs).2) else if (ckI b).2 ≠ 0 then ([], (ckI b).2) else
  if 65536 < (printS fs).1.length + 1 + b.length then ([], 5) else ((printS fs).1 ++ [10] ++ b, 0)
def AprPost (fs : List (List UInt8 × List UInt8)) (b : List UInt8) (w : World) (e : Ending) (w' : World) : Prop := e = .returned (.tuple #[strV (aprS fs b).1, .int .i64 (aprS fs b).2]) ∧ Below w.heap.size w w'
theorem printL_len : ∀ (fs : List (List UInt8 × List UInt8)) (out : List UInt8), (printL fs out).1.length ≤ 65536
  | [], out => by
    unfold printL
    split
    · simp
    · show out.length ≤ _; omega
  | f :: r, out => by
    unfold printL
    split
    · simp
    · exact printL_len r _
theorem printS_len (fs : List (List UInt8 × List UInt8)) : (printS fs).1.length ≤ 65536 := by
  unfold printS
  split
  · simp
  · exact printL_len _ _

set_option maxRecDepth 10000 in
set_option maxHeartbeats 2000000 in
theorem aprint_any {B : Nat} {v : Value} {fs : List (List UInt8 × List UInt8)} {body : ByteArray} {w : World} (h : w.ownsRow B 70 2 v fs.length (cellsF fs)) (hz : ∀ f ∈ fs, f.1.length ≤ 1000000 ∧ f.2.length ≤ 1000000) (hn : fs.length ≤ 1000000) (hb : body.size ≤ 1000000) :
    Calls Tryz.prog 18 #[.agg #[v, .string body]] w (AprPost fs body.data.toList w) := by
  obtain ⟨A, cap, rfl⟩ := own_shape2 h
  have hk0 : Kept (fun _ => False) w (w.alloc (.cells #[.slice A fs.length cap, .string body] 32)) := (Kept.refl _ w).alloc _
  have CP := Lib.hid (print_any (own_kept h hk0 (fun _ _ f => f)) hz hn)
  have hc0 := heap_alloc_new w (.cells #[.slice A fs.length cap, .string body] 32)
  have HC0 := Lib.hid hc0
  have CB := Lib.hid (checkBody_any body hb)
  have hl := printS_len fs
  have hbl : body.data.toList.length = body.size := by simp
  obtain ⟨⟨ph, pc⟩, hp⟩ : ∃ q, printS fs = q := ⟨_, rfl⟩
  obtain ⟨⟨ca, cc⟩, hck⟩ : ∃ q, ckI body.data.toList = q := ⟨_, rfl⟩
  rw [hp] at hl
  have HP := Lib.hid hp
  have HCK := Lib.hid hck
  have HBL := Lib.hid hbl
  simp only at hl
  clear h hz hp hck hbl hc0 hk0
  generalize fs.length = nf at *
  go_enter Tryz.func18, Tryz.ntmps18
  go_wp2_with fail
  refine CP.out.mono ?_
  rintro e w1 ⟨rfl, hb1⟩
  rw [HP.out]
  have hc1 := (hb1.block w.heap.size (by simp)).trans HC0.out
  have HB1 := Lib.hid (((Below.refl w.heap.size w).alloc (Nat.le_refl _) (.cells #[.slice A nf cap, .string body] 32)).trans (hb1.mono (by simp)))
  obtain ⟨⟨c0, c1⟩, f0, f1⟩ := two_facts hc1
  have hlt1 := lt_of_block hc1
  clear hb1 hc1
  by_cases hpc : pc = 0
  · have hpb : (pc != 0) = false := by simp [hpc]
    have HPC := Lib.hid hpc
    clear hpc
    simp only [strV]
    go_wp2_with fail
    refine (CB.out _).mono ?_
    rintro e w2 ⟨rfl, hb2⟩
    rw [HCK.out]
    have HB2 := Lib.hid (HB1.out.trans (hb2.mono HB1.out.size))
    have c1' := (hb2.cell (p := ⟨w.heap.size, 1, none⟩) hlt1).trans c1
    clear hb2 c1
    by_cases hcc : cc = 0
    · have hcb : (cc != 0) = false := by simp [hcc]
      have HCC := Lib.hid hcc
      clear hcc
      have hsz : (bsOf ph).size = ph.length := bsOf_size _
      by_cases hlong : 65536 < ph.length + 1 + body.size
      · have HE : Hid (aprS fs body.data.toList = ([], 5)) := Lib.hid (by
          unfold aprS
          rw [HP.out, HCK.out, if_neg (by rw [HPC.out]; exact fun f => f rfl), if_neg (by rw [HCC.out]; exact fun f => f rfl), HBL.out, if_pos hlong])
        go_wp2
        go_ret2
        exact ⟨by rw [HE.out]; rfl, HB2.out⟩
      · have HE : Hid (aprS fs body.data.toList = (ph ++ [10] ++ body.data.toList, 0)) := Lib.hid (by
          unfold aprS
          rw [HP.out, HCK.out, if_neg (by rw [HPC.out]; exact fun f => f rfl), if_neg (by rw [HCC.out]; exact fun f => f rfl), HBL.out, if_neg hlong])
        go_wp2
        go_ret2
        refine ⟨?_, HB2.out⟩
        rw [HE.out]
        show _ = Ending.returned (.tuple #[.string (bsOf (ph ++ [10] ++ body.data.toList)), _])
        rw [← bsOf_append, ← bsOf_append, bsOf_eta]
        rfl
    · have hcb : (cc != 0) = true := by simp [hcc]
      have HE : Hid (aprS fs body.data.toList = ([], cc)) := Lib.hid (by
        unfold aprS
        rw [HP.out, HCK.out, if_neg (by rw [HPC.out]; exact fun f => f rfl), if_pos hcc])
      clear hcc
      go_wp2
      go_ret2
      exact ⟨by rw [HE.out]; rfl, HB2.out⟩
  · have hpb : (pc != 0) = true := by simp [hpc]
    have HE : Hid (aprS fs body.data.toList = ([], pc)) := Lib.hid (by
      unfold aprS
      rw [HP.out, if_pos hpc])
    clear hpc
    go_wp2
    go_ret2
    exact ⟨by rw [HE.out]; rfl, HB1.out⟩
end Go.Proofs.YteecmcphbehfgaaGreatDoor
