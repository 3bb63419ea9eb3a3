/- ArticleStrips holds: for every text the law returns true, and the text reads as before; and its tied card.
   Conditions: none beyond the row's own. -/
import Derived.Test.YteecmcphbehfgaaGreatDoorCB
namespace Go.Proofs.YteecmcphbehfgaaGreatDoor
open Go.ChangeShapes Go.WideShapes Go.ChangeAt Go.RowKit Go.Lib

theorem quS_len2 (l : List UInt8) : (quS l).1.length ≤ 65536 := by
  unfold quS
  split
  · exact Nat.zero_le _
  · split
    · exact Nat.zero_le _
    · split
      · exact Nat.zero_le _
      · rename_i h
        exact Nat.le_of_not_lt h

set_option maxRecDepth 100000 in
set_option maxHeartbeats 4000000 in
theorem strips_any (s : ByteArray) (n : Int) (w : World) (m : Int) (hm : w.cell? ⟨0, 0, none⟩ = some (.int .i64 m)) (hs : s.size ≤ 9223372036854775807) :
    Calls Tryz.prog 7 #[.string s, .int .i64 n] w fun e w' => e = .returned (.bool true) ∧ Below w.heap.size w w' := by
  have h0 : 0 < w.heap.size := by
    rcases Nat.eq_zero_or_pos w.heap.size with h | h
    · simp [World.cell?, Array.getElem?_eq_none (show w.heap.size ≤ 0 by omega)] at hm
    · exact h
  have HM := Lib.hid hm
  have CS : Hid (∀ W, Calls Tryz.prog 11 #[.string s, .int .i64 3000] W fun e w' => e = .returned (.string (s.extract 0 (min s.size 3000))) ∧ w' = W) := Lib.hid (short_any s 3000 hs (by decide))
  have htz := short_size s 3000
  generalize s.extract 0 (min s.size 3000) = t at *
  have C1 := Lib.hid (strip_any t n (by omega))
  have C2 := Lib.hid (rstrip_any t n (by omega))
  have C3 := Lib.hid (quote_any t (by omega))
  obtain ⟨P, hP⟩ : ∃ P, bsOf (stS n t.data.toList).1 = P := ⟨_, rfl⟩
  obtain ⟨d, hd⟩ : ∃ d, (stS n t.data.toList).2 = d := ⟨_, rfl⟩
  obtain ⟨Q, hQ⟩ : ∃ Q, bsOf (quS t.data.toList).1 = Q := ⟨_, rfl⟩
  obtain ⟨c, hc⟩ : ∃ c, (quS t.data.toList).2 = c := ⟨_, rfl⟩
  have hQd : Q.data.toList = (quS t.data.toList).1 := by rw [← hQ, bsOf_data]
  have hQz : Q.size ≤ 65536 := by rw [← hQ, bsOf_size]; exact quS_len2 _
  have C4 := Lib.hid (strip_any Q 1 (by omega))
  obtain ⟨R, hR⟩ : ∃ R, bsOf (stS 1 Q.data.toList).1 = R := ⟨_, rfl⟩
  obtain ⟨f, hf⟩ : ∃ f, (stS 1 Q.data.toList).2 = f := ⟨_, rfl⟩
  have HST : Hid (c = 0 → R = ⟨#[]⟩ ∧ f = 0) := Lib.hid (fun h => by
    have h2 := strip_quoted (hc.trans h)
    rw [← hQd] at h2
    rw [← hR, ← hf, h2]
    exact ⟨rfl, rfl⟩)
  have HP := Lib.hid hP
  have HD := Lib.hid hd
  have HQ := Lib.hid hQ
  have HC := Lib.hid hc
  have HR := Lib.hid hR
  have HF := Lib.hid hf
  clear hm hP hd hQ hc hQd hR hf
  go_enter Tryz.func7, Tryz.ntmps7
  go_wp2_with fail
  refine (CS.out _).mono ?_
  rintro e w' ⟨rfl, rfl⟩
  go_wp2_with fail
  refine (C1.out _).mono ?_
  rintro e w1 ⟨rfl, hb1⟩
  simp only [strV]
  rw [HP.out, HD.out]
  have HB1 := Lib.hid hb1
  clear hb1
  go_wp2_with fail
  refine (C2.out _).mono ?_
  rintro e w2 ⟨rfl, hb2⟩
  simp only [strV]
  rw [HP.out, HD.out]
  have HB2 := Lib.hid (HB1.out.trans (hb2.mono HB1.out.size))
  have CK := Lib.hid (known_any w2 m (((bcell HB2.out).1 _ _ h0).trans HM.out))
  clear hb2
  go_wp2_with fail
  refine CK.out.mono ?_
  rintro e w3 ⟨rfl, hb3⟩
  have HB3 := Lib.hid (HB2.out.trans (hb3.mono HB2.out.size))
  clear hb3
  go_wp2_with fail
  refine (C3.out _).mono ?_
  rintro e w4 ⟨rfl, hb4⟩
  simp only [strV]
  rw [HQ.out, HC.out]
  have HB4 := Lib.hid (HB3.out.trans (hb4.mono HB3.out.size))
  clear hb4
  go_wp2_with fail
  refine (C4.out _).mono ?_
  rintro e w5 ⟨rfl, hb5⟩
  simp only [strV]
  rw [HR.out, HF.out]
  have HB5 := Lib.hid (HB4.out.trans (hb5.mono HB4.out.size))
  clear hb5
  by_cases hc0 : c = 0
  · obtain ⟨rfl, rfl⟩ := HST.out hc0
    subst hc0
    go_wp2
    go_ret
    exact ⟨rfl, HB5.out⟩
  · have hcb : (c == 0) = false := by simp [hc0]
    have hcb2 : decide (c = 0) = false := by simp [hc0]
    have hcd : (c != 0) = true := by simp [hc0]
    go_wp2
    go_ret
    exact ⟨rfl, HB5.out⟩

set_option maxRecDepth 100000 in
theorem articleStrips_lifted (os : Os) (started : os.Started) (H : Type) (enc : TypeId × Value → H) :
    ReturnsInHanded {} Tryz.checked os 7 .any (fun w args => (Rows.articleStripsSpec.pre enc Tryz.prog Tryz.f7 [] false w args ∧ laidMetH Tryz.prog Rows.articleStripsRow.laid w) ∧ sizedMet enc Tryz.prog Tryz.f7 (OpenSpec.ofChange Rows.articleStripsSpec) false w args) (Rows.articleStripsSpec.post enc Tryz.prog Tryz.f7 false true false false) := by
  refine returns_shaped_laid (C := Tryz.checked) (X := fun w _ => laidMetH Tryz.prog Rows.articleStripsRow.laid w) Tryz.own started (by kernel_rfl) Tryz.func7
    (ChangeSpec.witness_shaped (enc := enc) (C := Tryz.checked) (os := os) (X := fun w _ => laidMetH Tryz.prog Rows.articleStripsRow.laid w) false (World.laidAll Tryz.prog os Rows.articleStripsRow.laid) #[.string ⟨#[]⟩, .int .i64 0] 8 (World.laidAll_os _ _ _)
      (World.shaped_of_ZipB (by kernel_rfl) (by kernel_rfl)) (by kernel_rfl) (by kernel_rfl) (by kernel_rfl)
      (by rw [MakeChecks.laidMetH_plain _ _ _ (by kernel_rfl)]; exact laidMet_laidAll _ (by kernel_rfl) (by kernel_rfl))) ?_
  intro W base args ds gs before hval0 hW _ hsh
  have hval : ∀ (j : Nat) t v, Tryz.f7.params[j]? = some t → args[j]? = some v → Value.okWide Tryz.prog W .any base t v := hval0
  have hW' := hW
  obtain ⟨p, q, hA0, hV, rfl, hfz, hnd⟩ := hW
  have hA : DataW.TrodAll enc Tryz.prog W 0 (fun _ => true) true Tryz.f7.params.toList args.toList ds p := hA0
  rw [Tryz.params7] at hA hval
  obtain ⟨v0, v1, d0, d1, p0, p1, rfl, rfl, rfl, h0, h1⟩ := trodAll_two hA
  obtain ⟨rfl, rfl⟩ := trodVars_none hV
  obtain ⟨s0, rfl, rfl, rfl, ws0⟩ := Go.ChangeMaps.open_string Tryz.underlying9 (hval 0 9 v0 rfl rfl) h0
  obtain ⟨s1, rfl, rfl, rfl, ws1⟩ := open_int Tryz.underlying3 (hval 1 3 v1 rfl rfl) h1
  obtain ⟨m, hm⟩ := maxLen_cell hsh
  clear hA0 hval0
  simp only [List.append_nil] at hW'
  refine (strips_any s0 s1 W m hm ws0).mono fun e W' ⟨he, hb⟩ => ?_
  subst he
  refine ⟨_, rfl, post_of_below (pa := []) (pv := []) hW' (fun _ _ _ => trodAll_mk1 (shut_bool Tryz.underlying4 true)) (fun sp _ => trodAll_mk2 (Go.ChangeMaps.shut_string Tryz.underlying9 ws0) (shut_int Tryz.underlying3 ws1)) (fun _ _ => rfl) rfl hb (ok_one (by kernel_rfl) rfl (okWide_bool_mk Tryz.underlying4 _))⟩

theorem articleStrips_row : Rows.ArticleStripsSaid :=
  OpenClaim.holds_of_wide 7 Tryz.f7 rfl rfl rfl rfl rfl rfl rfl ⟨rfl, rfl, rfl, rfl, rfl⟩ rfl rfl rfl rfl rfl (by kernel_rfl) Tryz.func7 (by kernel_rfl)
    (of_decide_eq_true (by kernel_rfl)) (by unfold Func.isWrapper; first | (rw [if_pos (by decide +kernel)]; kernel_rfl) | (rw [if_neg (by decide +kernel)]; exact ⟨rfl, rfl⟩))
    (fun os started H enc _ => articleStrips_lifted os started H enc)
/-- The tied card. -/
theorem articleStrips_holds : Rows.ArticleStripsCardSaid :=
  Claim7.holds_tied_plain_at .later [] [.data, .pinned] true (true, "1ccf7410fb085e21d3fd65167d94457e830c03b106e6c31fee71eb462a0a0c80") false
    articleStrips_row (fun _ h => by cases h) (by kernel_rfl) (fun _ h => by cases h) articleStrips_row_tie rfl ⟨rfl, rfl⟩ (by kernel_rfl) rfl
    (fun f fn hf hfn => by
      obtain rfl : f = 7 := Option.some.inj ((show Tryz.prog.funcNamed "bulletin/bulletinlaw15.ArticleStrips" = some 7 by kernel_rfl).symm.trans hf) |>.symm
      obtain rfl : fn = Tryz.f7 := (Option.some.inj (Tryz.func7.symm.trans hfn)).symm
      exact ⟨by kernel_rfl, fun j t ht => by
        rw [Tryz.params7] at ht
        have hm : t ∈ [9, 3] := by simpa using Array.mem_of_getElem? ht
        have hall : ([9, 3].all fun u => !Tryz.prog.wantsStandIn u) = true := by kernel_rfl
        exact (show Tryz.prog.wantsStandIn t = false by simpa using List.all_eq_true.1 hall t hm)⟩)
    (by kernel_rfl)
end Go.Proofs.YteecmcphbehfgaaGreatDoor
