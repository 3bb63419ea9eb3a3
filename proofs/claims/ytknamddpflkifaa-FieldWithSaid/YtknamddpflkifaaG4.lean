/- The limits of the statements: cut to 70 fields of 60 and 9000 bytes.
   Conditions: none beyond the form's own reach. -/
import Derived.Test.YtknamddpflkifaaG3
import Derived.Deep.RegionHeld3
namespace Go.Proofs.Ytknamddpflkifaa
open Go.RowKit Go.Lib

def cut1 (f : List UInt8 × List UInt8) : List UInt8 × List UInt8 := (f.1.take 60, f.2.take 9000)
def cutF (fs : List (List UInt8 × List UInt8)) : List (List UInt8 × List UInt8) := (fs.take 70).map cut1
theorem cutF_len (fs : List (List UInt8 × List UInt8)) : (cutF fs).length = min 70 fs.length := by unfold cutF; rw [List.length_map, List.length_take]
theorem cutF_get {fs : List (List UInt8 × List UInt8)} {k : Nat} {a b : List UInt8} (h : k < fs.length) (he : fs[k] = (a, b)) (h70 : k < 70) {h' : k < (cutF fs).length} : (cutF fs)[k] = (a.take 60, b.take 9000) := by
  have e : (cutF fs)[k]? = some (a.take 60, b.take 9000) := by
    unfold cutF
    rw [List.getElem?_map, List.getElem?_take, if_pos h70, List.getElem?_eq_getElem h, he]
    rfl
  rw [List.getElem?_eq_getElem h'] at e
  injection e
theorem ext_take (l : List UInt8) (n : Nat) : Value.string ((bsOf l).extract 0 n) = strV (l.take n) := by
  have := strV_extract (bsOf l) 0 n
  rw [bsOf_data] at this
  simpa using this
theorem min_cut (l : List UInt8) (n : Nat) : ∃ q : Nat, min ((bsOf l).size : Int) n = q ∧ q ≤ (bsOf l).size ∧ Value.string ((bsOf l).extract 0 q) = strV (l.take n) := by
  refine ⟨min (bsOf l).size n, by omega, Nat.min_le_left _ _, ?_⟩
  rw [ext_take, bsOf_size]
  congr 1
  by_cases h : l.length ≤ n
  · rw [Nat.min_eq_left h, List.take_of_length_le (Nat.le_refl _), List.take_of_length_le h]
  · rw [Nat.min_eq_right (by omega)]

set_option maxRecDepth 10000 in
set_option maxHeartbeats 2000000 in
theorem cut_any {A : Option Addr} {cap : Nat} {fs : List (List UInt8 × List UInt8)} {w : World} (h : FldsAt A fs w) (hn : fs.length ≤ 9223372036854775807) :
    Calls Try.prog 14 #[.slice A fs.length cap] w (RowPost 25 (cutF fs) w) := by
  obtain ⟨i0, hi, hz0, hz1, hz2⟩ := info_parts Try.rfl_info
  have HI := Lib.hid hi
  have HZ0 := Lib.hid hz0
  have HZ1 := Lib.hid hz1
  have HZ2 := Lib.hid hz2
  clear hi hz0 hz1 hz2
  have H := Lib.hid h
  obtain ⟨nf, hnf⟩ : ∃ nf, fs.length = nf := ⟨_, rfl⟩
  have HNF := Lib.hid hnf
  rw [hnf] at hn ⊢
  clear h hnf
  go_enter Try.func14, Try.ntmps14
  go_wp2
  go_loopw [3, 4] (fun a v wr => RowRel 25 (cutF fs) w a v wr) (fun _ v _ => 70 - (RowKit.intOf v).toNat)
  case atStart => exact ⟨0, Nat.zero_le _, rfl, ⟨rfl, .inl ⟨rfl, rfl⟩⟩, Below.refl _ _⟩
  case round =>
    obtain ⟨k, hk, rfl, hown, hbl⟩ := hrel
    have hkr : k ≤ nf ∧ k ≤ 70 := by rw [cutF_len] at hk; rw [HNF.out] at hk; omega
    obtain ⟨hk0, hk70⟩ := hkr
    have HK := Lib.hid hk
    clear hk
    have HO := Lib.hid hown
    have HBL := Lib.hid hbl
    have hwr := hbl.size
    obtain ⟨A3, cap3, rfl⟩ := own_shape2 hown
    clear hown hbl
    by_cases hlt : k < nf
    · by_cases h70 : k < 70
      ·
        have hk' : k < fs.length := by rw [HNF.out]; exact hlt
        obtain ⟨ad, rfl, hb0⟩ := H.out.at_ (by omega)
        obtain ⟨c0, c1⟩ := (H.out.kept (kept_of_below HBL.out) (fun _ _ f => f)).cell k ad hk' rfl
        obtain ⟨z1, z2⟩ := H.out.small fs[k] (List.getElem_mem hk')
        obtain ⟨⟨fn, fb⟩, hfk⟩ : ∃ q, fs[k] = q := ⟨_, rfl⟩
        rw [hfk] at c0 c1 z1 z2
        simp only at c0 c1 z1 z2
        have HFK := Lib.hid hfk
        have y1 : (bsOf fn).size ≤ 9223372036854775807 := by rw [bsOf_size]; exact z1
        have y2 : (bsOf fb).size ≤ 9223372036854775807 := by rw [bsOf_size]; exact z2
        unfold strV at c0 c1
        clear z1 z2 hfk
        have i1 : (0 : Int) ≤ (k : Int) := Int.natCast_nonneg _
        have i2 : (k : Int) < (nf : Int) := by omega
        obtain ⟨q1, m1, hq1, e1⟩ := min_cut fn 60
        obtain ⟨q2, m2, hq2, e2⟩ := min_cut fb 9000
        have n1 : min ((bsOf fn).size : Int) 60 = q1 := m1
        have n2 : min ((bsOf fb).size : Int) 9000 = q2 := m2
        clear m1 m2
        have E1 := Lib.hid e1
        have E2 := Lib.hid e2
        clear e1 e2
        have j1 : (0 : Int) ≤ (q1 : Int) := Int.natCast_nonneg _
        have j2 : (0 : Int) ≤ (q2 : Int) := Int.natCast_nonneg _
        have j3 : (q1 : Int) ≤ ((bsOf fn).size : Int) := by omega
        have j4 : (q2 : Int) ≤ ((bsOf fb).size : Int) := by omega
        have lb1 : (ad.add (k * 2)).block < wr.heap.size := by rw [addr_block]; omega
        have ne1 : some (ad.add (k * 2)).block ≠ Value.ownBlock (.slice A3 k cap3) := by
          intro e
          have := (own_lt HO.out _ e.symm).1
          rw [addr_block] at this
          omega
        have lh := World.block_lt_of_cell? wr _ c1
        go_wp2_with fail
        have HK0 := Lib.hid (((Kept.refl (fun _ => False) wr).alloc (.cells #[.string ((bsOf fn).extract 0 q1), .string ((bsOf fb).extract 0 q2)] 25)).drew)
        go_region_held3 (fun w' => w'.cell? (ad.add (k * 2)) = some (.string (bsOf fn)) ∧ w'.cell? ⟨(ad.add (k * 2)).block, (ad.add (k * 2)).off + 1, none⟩ = some (.string (bsOf fb)))
          (first
            | go_keep
            | (go_split_ands
               refine ⟨?_, ?_⟩
               · (rw [hgrow3.cell_far (ad.add (k * 2)) (by simp; omega) ne1]; simp [*])
               · (rw [hgrow3.cell_far ⟨(ad.add (k * 2)).block, (ad.add (k * 2)).off + 1, none⟩ (by simp; omega) ne1]; simp [*])))
          ((refine step_append_lies _ (by rfl) _ _ 26 (by rfl) w.heap.size 25 i0 (.agg #[.string ⟨#[]⟩, .string ⟨#[]⟩]) 2 32 Try.underlying26 HI.out HZ0.out HZ1.out HZ2.out rfl (by decide) (.slice A3 k cap3) k _ (by rfl) (own_kept HO.out HK0.out (fun _ _ f => f)) ⟨wr.heap.size, 0, none⟩ 1 1 [.string ((bsOf fn).extract 0 q1), .string ((bsOf fb).extract 0 q2)] (by rfl) (by rfl) (new_cells2 _ _ _ _) (one_two _ _) (by decide) (by unfold maxLen; omega) (by omega) (by simp; omega) (wr.heap.size + 1) (by simp) ?_; intro g3 cap4 w3 hown3 hgrow3 hlies3 hlt3))
        all_goals
          have HO3 := Lib.hid hown3
          have HB3 := Lib.hid (HBL.out.trans ((HK0.out.mono (G := fun j => Value.ownBlock (.slice A3 k cap3) = some j) (fun _ _ f => f.elim)).grown hgrow3 (fun j _ e => e)|>.toBelow (fun j f => (own_lt HO.out j f).1) hwr))
          clear hown3 hgrow3 hlies3
          (try go_wp2)
          go_roundw
          case rel =>
            refine ⟨k + 1, ?_, by go_num, ?_, HB3.out⟩
            · rw [cutF_len]; rw [HNF.out]; (try omega)
            · have := HO3.out
              rw [E1.out, E2.out] at this
              have hc : cellsF (((cutF fs)).take (k + 1)) = cellsF (((cutF fs)).take k) ++ [strV (fn.take 60), strV (fb.take 9000)] := by
                have hkr : k < ((cutF fs)).length := by rw [cutF_len]; rw [HNF.out]; (try omega)
                rw [List.take_succ_eq_append_getElem hkr, cellsF_append]
                congr 1
                have : ((cutF fs))[k] = ((fn.take 60), (fb.take 9000)) := by exact cutF_get hk' HFK.out h70
                rw [this]
                rfl
              rw [hc]
              exact this
          case measure => simp [RowKit.intOf]; omega
      · obtain rfl : k = 70 := by omega
        go_wp2
        go_ret
        refine ⟨_, rfl, ?_, HBL.out⟩
        have e : ((cutF fs)).length = 70 := by rw [cutF_len]; rw [HNF.out]; (try omega)
        have e2 := HO.out
        rw [List.take_of_length_le (by rw [e]; exact Nat.le_refl _)] at e2
        rw [e]
        exact e2
    · obtain rfl : k = nf := by omega
      go_wp2
      go_ret
      refine ⟨_, rfl, ?_, HBL.out⟩
      have e : ((cutF fs)).length = k := by rw [cutF_len]; rw [HNF.out]; (try omega)
      have e2 := HO.out
      rw [List.take_of_length_le (by rw [e]; exact Nat.le_refl _)] at e2
      rw [e]
      exact e2
end Go.Proofs.Ytknamddpflkifaa
