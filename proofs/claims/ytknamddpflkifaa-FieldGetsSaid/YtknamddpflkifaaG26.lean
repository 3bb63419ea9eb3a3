/- Names by the document; Same of strings, over this translation.
   Conditions: names and bodies of at most 1000000 bytes. -/
import Derived.Test.YtknamddpflkifaaG25
import Derived.Deep.RegionHeld3
namespace Go.Proofs.Ytknamddpflkifaa
open Go.RowKit Go.Lib

theorem FldsAt.take {A : Option Addr} {fs : List (List UInt8 × List UInt8)} {w : World} (h : FldsAt A fs w) (n : Nat) : FldsAt A (fs.take n) w :=
  ⟨fun hl => h.at_ (by rw [List.length_take] at hl; omega), fun k ad hk ha => by rw [List.getElem_take]; exact h.cell k ad (by rw [List.length_take] at hk; omega) ha, fun s hs => h.small s (List.mem_of_mem_take hs)⟩
/-- What holds at the head of a round of the document's Names. -/
def RNmRel (fs : List (List UInt8 × List UInt8)) (w : World) (v3 v4 : Value) (wr : World) : Prop :=
  ∃ k : Nat, k ≤ fs.length ∧ v4 = .int .i64 k ∧ wr.ownsRow w.heap.size 9 1 v3 (namesF (fs.take k)).length ((namesF (fs.take k)).map strV) ∧ Below w.heap.size w wr

set_option maxRecDepth 10000 in
set_option maxHeartbeats 2000000 in
theorem rnames_any {A : Option Addr} {cap : Nat} {fs : List (List UInt8 × List UInt8)} {w : World} (h : FldsAt A fs w) (hz : ∀ f ∈ fs, f.1.length ≤ 1000000 ∧ f.2.length ≤ 1000000) (hn : fs.length ≤ 1000000) (hcap : fs.length ≤ cap) (hcap2 : cap ≤ 9223372036854775807) :
    Calls Try.prog 34 #[.slice A fs.length cap] w (StrPost (namesF fs) w) := by
  obtain ⟨i0, hi, hz0, hz1, hz2⟩ := info_parts Try.str_info
  have HI := Lib.hid hi
  have HZ0 := Lib.hid hz0
  have HZ1 := Lib.hid hz1
  have HZ2 := Lib.hid hz2
  clear hi hz0 hz1 hz2
  have H := Lib.hid h
  have HZ := Lib.hid hz
  obtain ⟨nf, hnf⟩ : ∃ nf, fs.length = nf := ⟨_, rfl⟩
  have HNF := Lib.hid hnf
  rw [hnf] at hn hcap ⊢
  clear h hz hnf
  go_enter Try.func34, Try.ntmps34
  go_wp2
  go_loopw [3, 4, 5, 6] (fun a v _ _ wr => RNmRel fs w a v wr) (fun _ v _ _ _ => nf - (RowKit.intOf v).toNat)
  case atStart => exact ⟨0, Nat.zero_le _, rfl, ⟨rfl, .inl ⟨rfl, rfl⟩⟩, Below.refl _ _⟩
  case round =>
    obtain ⟨k, hk, rfl, hown, hbl⟩ := hrel
    rw [HNF.out] at hk
    have HO := Lib.hid hown
    have HBL := Lib.hid hbl
    have hwr := hbl.size
    obtain ⟨A3, cap3, rfl⟩ := own_shape hown
    obtain ⟨acc, hacc⟩ : ∃ acc, namesF (fs.take k) = acc := ⟨_, rfl⟩
    have HACC := Lib.hid hacc
    obtain ⟨na, hna⟩ : ∃ na, acc.length = na := ⟨_, rfl⟩
    have HNA := Lib.hid hna
    have hna2 : na ≤ 1000000 := by
      rw [← hna, ← hacc]
      have := (namesF_small (fs.take k)).1
      rw [List.length_take] at this
      omega
    rw [hacc] at HO ⊢
    rw [hna] at HO ⊢
    clear hown hbl hacc hna
    by_cases hlt : k < nf
    · have hk' : k < fs.length := by rw [HNF.out]; exact hlt
      obtain ⟨ad, rfl, hb0⟩ := H.out.at_ (by omega)
      have hfr := H.out.kept (kept_of_below HBL.out) (fun _ _ f => f)
      obtain ⟨c0, c1⟩ := hfr.cell k ad hk' rfl
      obtain ⟨z1, z2⟩ := HZ.out fs[k] (List.getElem_mem hk')
      have hts : Hid (fs.take (k + 1) = fs.take k ++ [fs[k]]) := Lib.hid (List.take_succ_eq_append_getElem hk')
      obtain ⟨⟨fn, fb⟩, hfk⟩ : ∃ q, fs[k] = q := ⟨_, rfl⟩
      rw [hfk] at c0 c1 z1 z2 hts
      simp only at c0 c1 z1 z2
      have htl : (fs.take k).length = k := by rw [List.length_take, HNF.out]; omega
      have CG := fun (W : World) (hW : Kept (fun _ => False) wr W) => rget_any (cap := cap) (bsOf fn) ((hfr.take k).kept hW (fun _ _ f => f)) (fun f hf => HZ.out f (List.mem_of_mem_take hf)) (by rw [htl]; omega) (by rw [bsOf_size]; omega)
      rw [htl, bsOf_data] at CG
      obtain ⟨gb, hgb⟩ : ∃ gb, (getF fn (fs.take k)).1 = gb := ⟨_, rfl⟩
      obtain ⟨cn, hcn⟩ : ∃ cn, (getF fn (fs.take k)).2 = cn := ⟨_, rfl⟩
      have hiff := getF_zero fn (fs.take k)
      rw [HACC.out, hcn] at hiff
      rw [hgb, hcn] at CG
      have HCG := Lib.hid CG
      have HIFF := Lib.hid hiff
      have CL := fun W => rlower_any (bsOf fn) W (by rw [bsOf_size]; omega)
      rw [bsOf_data] at CL
      have HCL := Lib.hid CL
      unfold strV at c0 HCL
      have C0 := Lib.hid c0
      have lb1 : (ad.add (k * 2)).block < wr.heap.size := by rw [addr_block]; omega
      clear z1 z2 hfk CL CG hgb hcn hiff hfr htl c1
      have i1 : (0 : Int) ≤ (k : Int) := Int.natCast_nonneg _
      have i2 : (k : Int) < (nf : Int) := by omega
      have i3 : (k : Int) ≤ (cap : Int) := by omega
      by_cases hpp : cn = 0
      case' pos =>
        have hc2 : ((cn : Int) == 0) = true := beq_iff_eq.2 (by omega)
        have hfil : Hid (namesF (fs.take (k + 1)) = acc ++ [lowL fn]) := Lib.hid (by rw [hts.out, namesF_snoc, HACC.out]; unfold nameStep; rw [if_neg (by rw [HIFF.out.1 hpp]; decide)])
      case' neg =>
        have hc2 : ((cn : Int) == 0) = false := beq_eq_false_iff_ne.2 (by omega)
        have hfil : Hid (namesF (fs.take (k + 1)) = acc) := Lib.hid (by
          rw [hts.out, namesF_snoc, HACC.out]
          unfold nameStep
          rw [if_pos (by
            cases h : acc.contains (lowL fn)
            · exact absurd (HIFF.out.2 h) hpp
            · rfl)])
      all_goals
        clear hpp
        go_wp2_with fail
        go_region_held3 (fun w' => w'.cell? (ad.add (k * 2)) = some (.string (bsOf fn))) (first | go_keep | exact hS1)
          (first | (go_at_call 31; refine (HCG.out _ (by repeat (first | exact Kept.refl _ _ | refine Kept.drew ?_))).mono ?_; rintro e w1 ⟨rfl, hb1⟩; have hS1 : w1.cell? (ad.add (k * 2)) = some (.string (bsOf fn)) := (((Kept.refl (fun _ => False) wr).drew.trans (kept_of_below hb1) (fun _ _ f => f)).cell (p := ad.add (k * 2)) lb1 (fun f => f)).trans C0.out))
        have hk1 : Kept (fun _ => False) wr w1 := (Kept.refl (fun _ => False) wr).drew.trans (kept_of_below hb1) (fun _ _ f => f)
        have HO1 := Lib.hid (own_kept HO.out hk1 (fun _ _ f => f))
        have HB1 := Lib.hid (HBL.out.trans (hk1.below (fun _ _ _ f => f) hwr))
        have hz1 : wr.heap.size ≤ w1.heap.size := hk1.size
        clear hb1 hk1 c0
        go_wp2_with fail
      · go_roundw
        case rel => exact ⟨k + 1, by rw [HNF.out]; omega, by go_num, by rw [hfil.out, HNA.out]; exact HO1.out, HB1.out⟩
        case measure => simp [RowKit.intOf]; omega
      · refine (HCL.out _).mono ?_
        rintro e w2 ⟨rfl, hb2⟩
        have HO2 := Lib.hid (own_kept HO1.out (kept_of_below hb2) (fun _ _ f => f))
        have HB2 := Lib.hid (HB1.out.trans (hb2.mono (by omega)))
        have hz2 : w1.heap.size ≤ w2.heap.size := hb2.size
        clear hb2
        go_wp2_with (at_builtin; refine wpList_append_own _ rfl _ _ 36 rfl w.heap.size 9 i0 (.string ⟨#[]⟩) 1 16 Try.underlying36 HI.out HZ0.out HZ1.out HZ2.out rfl (by decide) _ _ _ rfl (own_kept HO2.out ((Kept.refl (fun _ => False) w2).alloc _) (fun _ _ f => f)) ⟨w2.heap.size, 0, none⟩ 1 1 [.string (bsOf (lowL fn))] rfl rfl (new_cells w2 _ _) (by intro u hu; rw [List.mem_singleton.1 hu]; rfl) (by unfold maxLen; omega) (by omega) (by simp; omega) ?_; intro v' w3 hown' hgrow hnil; clear hnil)
        have HO3 := Lib.hid hown'
        have hk3 := ((Kept.refl (fun j => Value.ownBlock (.slice A3 na cap3) = some j) w2).alloc (.cells #[.string (bsOf (lowL fn))] 9)).grown hgrow (fun j _ e => e)
        have HB3 := Lib.hid (HB2.out.trans (hk3.toBelow (B := w.heap.size) (fun j f => (own_lt HO2.out j f).1) (by omega)))
        obtain ⟨A4, cap4, rfl⟩ := own_shape hown'
        clear hown' hgrow hk3
        go_wp2
        go_roundw
        case rel =>
          refine ⟨k + 1, by rw [HNF.out]; omega, by go_num, ?_, HB3.out⟩
          have := HO3.out
          rw [hfil.out, List.length_append, HNA.out, List.map_append]
          exact this
        case measure => simp [RowKit.intOf]; omega
    · obtain rfl : k = nf := by omega
      have hE : Hid (acc = namesF fs) := Lib.hid (by rw [← HACC.out, List.take_of_length_le (by rw [HNF.out]; exact Nat.le_refl _)])
      have hsm : Hid (∀ s ∈ acc, s.length ≤ 9223372036854775807) := Lib.hid (by
        intro s hs
        rw [← HACC.out] at hs
        obtain ⟨f, hf, rfl⟩ := (namesF_small _).2 s hs
        rw [lowL_len]
        have := HZ.out f (List.mem_of_mem_take hf)
        omega)
      go_wp2
      go_ret
      refine ⟨A3, cap3, by rw [← hE.out, HNA.out]; rfl, ?_, HBL.out⟩
      rw [← hE.out]
      exact StrsAt.of_own (cap := cap3) (by rw [HNA.out]; exact HO.out) hsm.out

set_option maxRecDepth 10000 in
set_option maxHeartbeats 2000000 in
theorem sames_any {A B : Option Addr} {ca cb : Nat} {ss : List (List UInt8)} {w : World} (hA : StrsAt A ss w) (hB : StrsAt B ss w) (hn : ss.length ≤ 1000000) :
    Calls Try.prog 32 #[.slice A ss.length ca, .slice B ss.length cb] w fun e w' => e = .returned (.bool true) ∧ Below w.heap.size w w' := by
  have HA := Lib.hid hA
  have HB := Lib.hid hB
  clear hA hB
  obtain ⟨nf, hnf⟩ : ∃ nf, ss.length = nf := ⟨_, rfl⟩
  have HNF := Lib.hid hnf
  rw [hnf] at hn ⊢
  clear hnf
  go_enter Try.func32, Try.ntmps32
  go_wp2
  go_loopw [5] (fun v wr => ∃ k : Nat, k ≤ nf ∧ v = .int .i64 k ∧ Below w.heap.size w wr) (fun v _ => nf - (RowKit.intOf v).toNat)
  case atStart => exact ⟨0, Nat.zero_le _, rfl, Below.refl _ _⟩
  case round =>
    obtain ⟨k, hk, rfl, hbl⟩ := hrel
    have HBL := Lib.hid hbl
    clear hbl
    by_cases hlt : k < nf
    · have hk1 : k < ss.length := by rw [HNF.out]; exact hlt
      obtain ⟨ad, rfl, hb0⟩ := HA.out.at_ (by omega)
      obtain ⟨bd, rfl, hb1⟩ := HB.out.at_ (by omega)
      have c0 := (HA.out.kept (kept_of_below HBL.out) (fun _ _ f => f)).cell k ad hk1 rfl
      have d0 := (HB.out.kept (kept_of_below HBL.out) (fun _ _ f => f)).cell k bd hk1 rfl
      obtain ⟨s, hs⟩ : ∃ q, ss[k] = q := ⟨_, rfl⟩
      rw [hs] at c0 d0
      clear hs
      unfold strV at c0 d0
      have i1 : (0 : Int) ≤ (k : Int) := Int.natCast_nonneg _
      have i2 : (k : Int) < (nf : Int) := by omega
      go_wp2_with fail
      go_quiet (fail)
      go_wp2
      go_roundw
      case rel => exact ⟨k + 1, by omega, by go_num, drewN_below _ HBL.out⟩
      case measure => simp [RowKit.intOf]; omega
    · obtain rfl : k = nf := by omega
      go_wp2
      go_ret
      exact ⟨rfl, HBL.out⟩
end Go.Proofs.Ytknamddpflkifaa
