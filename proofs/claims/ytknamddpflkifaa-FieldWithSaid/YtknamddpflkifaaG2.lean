/- The fields of the document turned into fields of the program: To.
   Conditions: none beyond the form's own reach. -/
import Derived.Test.YtknamddpflkifaaG1
import Derived.Deep.RegionHeld3
namespace Go.Proofs.Ytknamddpflkifaa
open Go.RowKit Go.Lib

theorem Try.rfl_info : (Try.prog.info? 25).map (fun i => (i.zero, i.size, i.bytes)) = some (some (.agg #[.string ⟨#[]⟩, .string ⟨#[]⟩]), 2, 32) := by kernel_rfl

/-- A row of fields handed back. -/
def RowPost (E : TypeId) (gs : List (List UInt8 × List UInt8)) (w : World) (e : Ending) (w' : World) : Prop :=
  ∃ v, e = .returned v ∧ w'.ownsRow w.heap.size E 2 v gs.length (cellsF gs) ∧ Below w.heap.size w w'
/-- What holds at the head of a round that fills such a row. -/
def RowRel (E : TypeId) (gs : List (List UInt8 × List UInt8)) (w : World) (v3 v4 : Value) (wr : World) : Prop :=
  ∃ k : Nat, k ≤ gs.length ∧ v4 = .int .i64 k ∧ wr.ownsRow w.heap.size E 2 v3 k (cellsF (gs.take k)) ∧ Below w.heap.size w wr

set_option maxRecDepth 10000 in
set_option maxHeartbeats 2000000 in
theorem to_any {A : Option Addr} {cap : Nat} {fs : List (List UInt8 × List UInt8)} {w : World} (h : FldsAt A fs w) (hn : fs.length ≤ 9223372036854775807) :
    Calls Try.prog 21 #[.slice A fs.length cap] w (RowPost 28 (fs.take 70) w) := by
  obtain ⟨i0, hi, hz0, hz1, hz2⟩ := info_parts Try.fld_info
  have HI := Lib.hid hi
  have HZ0 := Lib.hid hz0
  have HZ1 := Lib.hid hz1
  have HZ2 := Lib.hid hz2
  clear hi hz0 hz1 hz2
  have H := Lib.hid h
  obtain ⟨nf, hnf⟩ : ∃ nf, fs.length = nf := ⟨_, rfl⟩
  have HNF := Lib.hid hnf
  rw [hnf] at hn ⊢
  clear h hnf
  go_enter Try.func21, Try.ntmps21
  go_wp2
  go_loopw [3, 4] (fun a v wr => RowRel 28 (fs.take 70) w a v wr) (fun _ v _ => 70 - (RowKit.intOf v).toNat)
  case atStart => exact ⟨0, Nat.zero_le _, rfl, ⟨rfl, .inl ⟨rfl, rfl⟩⟩, Below.refl _ _⟩
  case round =>
    obtain ⟨k, hk, rfl, hown, hbl⟩ := hrel
    have hkr : k ≤ nf ∧ k ≤ 70 := by rw [List.length_take] at hk; rw [HNF.out] at hk; omega
    obtain ⟨hk0, hk70⟩ := hkr
    have HK := Lib.hid hk
    clear hk
    have HO := Lib.hid hown
    have HBL := Lib.hid hbl
    have hwr := hbl.size
    obtain ⟨A3, cap3, rfl⟩ := own_shape2 hown
    clear hown hbl
    by_cases hlt : k < nf
    · by_cases h70 : k < 70
      ·
        have hk' : k < fs.length := by rw [HNF.out]; exact hlt
        obtain ⟨ad, rfl, hb0⟩ := H.out.at_ (by omega)
        obtain ⟨c0, c1⟩ := (H.out.kept (kept_of_below HBL.out) (fun _ _ f => f)).cell k ad hk' rfl
        obtain ⟨z1, z2⟩ := H.out.small fs[k] (List.getElem_mem hk')
        obtain ⟨⟨fn, fb⟩, hfk⟩ : ∃ q, fs[k] = q := ⟨_, rfl⟩
        rw [hfk] at c0 c1 z1 z2
        simp only at c0 c1 z1 z2
        have HFK := Lib.hid hfk
        have y1 : (bsOf fn).size ≤ 9223372036854775807 := by rw [bsOf_size]; exact z1
        have y2 : (bsOf fb).size ≤ 9223372036854775807 := by rw [bsOf_size]; exact z2
        unfold strV at c0 c1
        clear z1 z2 hfk
        have i1 : (0 : Int) ≤ (k : Int) := Int.natCast_nonneg _
        have i2 : (k : Int) < (nf : Int) := by omega
        have lb1 : (ad.add (k * 2)).block < wr.heap.size := by rw [addr_block]; omega
        have ne1 : some (ad.add (k * 2)).block ≠ Value.ownBlock (.slice A3 k cap3) := by
          intro e
          have := (own_lt HO.out _ e.symm).1
          rw [addr_block] at this
          omega
        have lh := World.block_lt_of_cell? wr _ c1
        go_wp2_with fail
        have HK0 := Lib.hid (((Kept.refl (fun _ => False) wr).alloc (.cells #[.string (bsOf fn), .string (bsOf fb)] 28)).drew)
        go_region_held3 (fun w' => w'.cell? (ad.add (k * 2)) = some (.string (bsOf fn)) ∧ w'.cell? ⟨(ad.add (k * 2)).block, (ad.add (k * 2)).off + 1, none⟩ = some (.string (bsOf fb)))
          (first
            | go_keep
            | (go_split_ands
               refine ⟨?_, ?_⟩
               · (rw [hgrow3.cell_far (ad.add (k * 2)) (by simp; omega) ne1]; simp [*])
               · (rw [hgrow3.cell_far ⟨(ad.add (k * 2)).block, (ad.add (k * 2)).off + 1, none⟩ (by simp; omega) ne1]; simp [*])))
          ((refine step_append_lies _ (by rfl) _ _ 39 (by rfl) w.heap.size 28 i0 (.agg #[.string ⟨#[]⟩, .string ⟨#[]⟩]) 2 32 Try.underlying39 HI.out HZ0.out HZ1.out HZ2.out rfl (by decide) (.slice A3 k cap3) k _ (by rfl) (own_kept HO.out HK0.out (fun _ _ f => f)) ⟨wr.heap.size, 0, none⟩ 1 1 [.string (bsOf fn), .string (bsOf fb)] (by rfl) (by rfl) (new_cells2 _ _ _ _) (one_two _ _) (by decide) (by unfold maxLen; omega) (by omega) (by simp; omega) (wr.heap.size + 1) (by simp) ?_; intro g3 cap4 w3 hown3 hgrow3 hlies3 hlt3))
        all_goals
          have HO3 := Lib.hid hown3
          have HB3 := Lib.hid (HBL.out.trans ((HK0.out.mono (G := fun j => Value.ownBlock (.slice A3 k cap3) = some j) (fun _ _ f => f.elim)).grown hgrow3 (fun j _ e => e)|>.toBelow (fun j f => (own_lt HO.out j f).1) hwr))
          clear hown3 hgrow3 hlies3
          (try go_wp2)
          go_roundw
          case rel =>
            refine ⟨k + 1, ?_, by go_num, ?_, HB3.out⟩
            · rw [List.length_take]; rw [HNF.out]; (try omega)
            · have := HO3.out
              have hc : cellsF (((fs.take 70)).take (k + 1)) = cellsF (((fs.take 70)).take k) ++ [strV fn, strV fb] := by
                have hkr : k < ((fs.take 70)).length := by rw [List.length_take]; rw [HNF.out]; (try omega)
                rw [List.take_succ_eq_append_getElem hkr, cellsF_append]
                congr 1
                have : ((fs.take 70))[k] = (fn, fb) := by rw [List.getElem_take]; exact HFK.out
                rw [this]
                rfl
              rw [hc]
              exact this
          case measure => simp [RowKit.intOf]; omega
      · obtain rfl : k = 70 := by omega
        go_wp2
        go_ret
        refine ⟨_, rfl, ?_, HBL.out⟩
        have e : ((fs.take 70)).length = 70 := by rw [List.length_take]; rw [HNF.out]; (try omega)
        have e2 := HO.out
        rw [List.take_of_length_le (by rw [e]; exact Nat.le_refl _)] at e2
        rw [e]
        exact e2
    · obtain rfl : k = nf := by omega
      go_wp2
      go_ret
      refine ⟨_, rfl, ?_, HBL.out⟩
      have e : ((fs.take 70)).length = k := by rw [List.length_take]; rw [HNF.out]; (try omega)
      have e2 := HO.out
      rw [List.take_of_length_le (by rw [e]; exact Nat.le_refl _)] at e2
      rw [e]
      exact e2
end Go.Proofs.Ytknamddpflkifaa
