/- Print of the document over this translation.
   Conditions: names and bodies of at most 1000000 bytes. -/
import Derived.Test.YtknamddpflkifaaG8
namespace Go.Proofs.Ytknamddpflkifaa
open Go.RowKit Go.Lib

/-- What holds at the head of a round of the document's Print. -/
def RPRel (fs : List (List UInt8 × List UInt8)) (w : World) (v4 v5 : Value) (wr : World) : Prop :=
  ∃ (k : Nat) (out : List UInt8), k ≤ fs.length ∧ v5 = .int .i64 k ∧ v4 = strV out ∧ Below w.heap.size w wr ∧ printL (fs.drop k) out = printS fs ∧ out.length ≤ k * 4000000

set_option maxRecDepth 10000 in
set_option maxHeartbeats 2000000 in
theorem rprint_any {A : Option Addr} {cap : Nat} {fs : List (List UInt8 × List UInt8)} {w : World} (h : FldsAt A fs w) (hz : ∀ f ∈ fs, f.1.length ≤ 1000000 ∧ f.2.length ≤ 1000000) (hn : fs.length ≤ 1000000) :
    Calls Try.prog 22 #[.slice A fs.length cap] w (PrintPost fs w) := by
  have HA := Lib.hid h
  have HZ := Lib.hid hz
  clear h hz
  obtain ⟨nf, hnf⟩ : ∃ nf, fs.length = nf := ⟨_, rfl⟩
  have HNF := Lib.hid hnf
  rw [hnf] at hn ⊢
  clear hnf
  by_cases h64 : 64 < nf
  · have HE : Hid (printS fs = ([], 9)) := Lib.hid (by unfold printS; rw [if_pos (by rw [HNF.out]; exact h64)])
    go_enter Try.func22, Try.ntmps22
    go_wp2
    go_ret2
    exact ⟨by rw [HE.out]; rfl, Below.refl _ _⟩
  have HE : Hid (printL (fs.drop 0) [] = printS fs) := Lib.hid (by unfold printS; rw [if_neg (by rw [HNF.out]; exact h64)]; rfl)
  go_enter Try.func22, Try.ntmps22
  go_wp2
  go_loopw [4, 5, 6] (fun a v _ wr => RPRel fs w a v wr) (fun _ v _ _ => nf - (RowKit.intOf v).toNat)
  case atStart => exact ⟨0, [], Nat.zero_le _, rfl, rfl, Below.refl _ _, HE.out, Nat.zero_le _⟩
  case round =>
    obtain ⟨k, out, hk, rfl, rfl, hbl, htot, hsz⟩ := hrel
    rw [HNF.out] at hk
    have HBL := Lib.hid hbl
    have HT := Lib.hid htot
    have hwr := hbl.size
    clear hbl htot
    unfold strV
    by_cases hlt : k < nf
    · have hk' : k < fs.length := by rw [HNF.out]; exact hlt
      obtain ⟨ad, rfl, hb0⟩ := HA.out.at_ (by omega)
      obtain ⟨c0, c1⟩ := (HA.out.kept (kept_of_below HBL.out) (fun _ _ f => f)).cell k ad hk' rfl
      obtain ⟨z1, z2⟩ := HZ.out fs[k] (List.getElem_mem hk')
      have hfl := foldL_len z1 z2
      have hdr := Lib.hid (List.drop_eq_getElem_cons hk')
      obtain ⟨⟨fn, fb⟩, hfk⟩ : ∃ q, fs[k] = q := ⟨_, rfl⟩
      rw [hfk] at c0 c1 z1 z2 hfl hdr
      simp only at c0 c1 z1 z2 hfl
      have CC := fun W => rcheck_any (bsOf fn) (bsOf fb) W (by rw [bsOf_size]; exact z1) (by rw [bsOf_size]; exact z2)
      have CF := fun W => rfold_any (bsOf fn) (bsOf fb) W (by rw [bsOf_size]; exact z1) (by rw [bsOf_size]; exact z2)
      rw [bsOf_data, bsOf_data] at CC CF
      have HFL := Lib.hid hfl
      unfold strV at c0 c1 CF
      obtain ⟨code, hcode⟩ : ∃ code, checkI fn fb = code := ⟨_, rfl⟩
      rw [hcode] at CC
      have HCC := Lib.hid CC
      have HCF := Lib.hid CF
      have HCD := Lib.hid hcode
      have C0 := Lib.hid c0
      have C1 := Lib.hid c1
      clear hfk hfl CC CF hcode
      by_cases hc : code = 0
      · subst hc
        go_wp2_with fail
        refine (HCC.out _).mono ?_
        rintro e w1 ⟨rfl, hb1⟩
        have c0 := ((kept_of_below hb1).cell (p := ad.add (k * 2)) (by rw [addr_block]; omega) (fun f => f)).trans C0.out
        have c1 := ((kept_of_below hb1).cell (p := ⟨(ad.add (k * 2)).block, (ad.add (k * 2)).off + 1, none⟩) (by show (ad.add (k * 2)).block < _; rw [addr_block]; omega) (fun f => f)).trans C1.out
        have HB1 := Lib.hid (HBL.out.trans (hb1.mono hwr))
        have hw1 := HB1.out.size
        clear hb1
        go_wp2_with fail
        refine (HCF.out _).mono ?_
        rintro e w2 ⟨rfl, hb2⟩
        have HB2 := Lib.hid (HB1.out.trans (hb2.mono hw1))
        clear hb2
        have hlen : (bsOf out).size ≤ 300000000 := by rw [bsOf_size]; omega
        have hlen2 : (bsOf (foldL fn fb)).size ≤ 4000000 := by rw [bsOf_size]; exact HFL.out
        go_wp2
        go_roundw
        case rel =>
          refine ⟨k + 1, out ++ foldL fn fb, by rw [HNF.out]; omega, by go_num, by rw [bsOf_append]; rfl, HB2.out, ?_, ?_⟩
          · rw [← HT.out, hdr.out, printL, if_neg (by intro f; exact f HCD.out)]
          · have := HFL.out
            rw [List.length_append]
            omega
        case measure => simp [RowKit.intOf]; omega
      · have hcb : (code != 0) = true := by rw [bne, beq_eq_false_iff_ne.2 hc]; rfl
        have HTT : Hid (printS fs = ([], code)) := Lib.hid (by rw [← HT.out, hdr.out, printL, if_pos (by show checkI fn fb ≠ 0; rw [HCD.out]; exact hc)]; show _ = _; rw [HCD.out])
        clear hc
        go_wp2_with fail
        refine (HCC.out _).mono ?_
        rintro e w1 ⟨rfl, hb1⟩
        have HB1 := Lib.hid (HBL.out.trans (hb1.mono hwr))
        clear hb1
        go_wp2
        go_ret2
        exact ⟨by rw [HTT.out]; rfl, HB1.out⟩
    · obtain rfl : k = nf := by omega
      have HT2 : Hid ((if 65536 < out.length then (([] : List UInt8), (5 : Int)) else (out, 0)) = printS fs) := Lib.hid (by rw [← HT.out, ← HNF.out, List.drop_length]; rfl)
      have hos : (bsOf out).size = out.length := bsOf_size out
      have HOS := Lib.hid hos
      by_cases h6 : 65536 < out.length
      · have HT3 : Hid (printS fs = ([], 5)) := Lib.hid (by rw [← HT2.out, if_pos h6])
        have h6' : 65536 < (bsOf out).size := by omega
        clear hos
        go_wp2
        go_ret2
        exact ⟨by rw [HT3.out]; rfl, HBL.out⟩
      · have HT3 : Hid (printS fs = (out, 0)) := Lib.hid (by rw [← HT2.out, if_neg h6])
        have h6' : ¬ 65536 < (bsOf out).size := by omega
        clear hos
        go_wp2
        go_ret2
        exact ⟨by rw [HT3.out]; rfl, HBL.out⟩
end Go.Proofs.Ytknamddpflkifaa
