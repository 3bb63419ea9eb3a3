/- ArticleLevels holds: for every text the law returns true, and the text reads as before; and its tied card.
   Conditions: none beyond the row's own. -/
import Derived.Test.YteecmcphbehfgaaDoorSh
import Derived.Test.YteecmcphbehfgaaDoorC1
namespace Go.Proofs.YteecmcphbehfgaaDoor
open Go.ChangeShapes Go.WideShapes Go.ChangeAt Go.RowKit Go.Lib

set_option maxRecDepth 10000 in
set_option maxHeartbeats 1000000 in
theorem levels_any (s : ByteArray) (w : World) (m : Int) (hm : w.cell? ⟨2, 0, none⟩ = some (.int .i64 m)) (hs : s.size ≤ 9223372036854775807) :
    Calls Tryd.prog 3 #[.string s] w fun e w' => e = .returned (.bool true) ∧ Below w.heap.size w w' := by
  have h0 : 2 < w.heap.size := by
    rcases Nat.lt_or_ge w.heap.size 3 with h | h
    · simp [World.cell?, Array.getElem?_eq_none (show w.heap.size ≤ 2 by omega)] at hm
    · exact h
  have HM := Lib.hid hm
  have CS : Hid (∀ W, Calls Tryd.prog 4 #[.string s, .int .i64 200] W fun e w' => e = .returned (.string (s.extract 0 (min s.size 200))) ∧ w' = W) := Lib.hid (short_any s 200 hs (by decide))
  have htz := short_size s 200
  generalize s.extract 0 (min s.size 200) = t at *
  have C1 := Lib.hid (level_any t (by omega))
  have C2 := Lib.hid (rlevel_any t (by omega))
  obtain ⟨n, hn⟩ : ∃ n, lvN t.data.toList = n := ⟨_, rfl⟩
  obtain ⟨R, hR⟩ : ∃ R, bsOf (lvR t.data.toList) = R := ⟨_, rfl⟩
  have HN := Lib.hid hn
  have HR := Lib.hid hR
  clear hm hn hR
  go_enter Tryd.func3, Tryd.ntmps3
  go_wp2_with fail
  refine (CS.out _).mono ?_
  rintro e w' ⟨rfl, rfl⟩
  go_wp2_with fail
  refine (C1.out _).mono ?_
  rintro e w1 ⟨rfl, rfl⟩
  simp only [strV]
  rw [HN.out, HR.out]
  go_wp2_with fail
  refine (C2.out _).mono ?_
  rintro e w2 ⟨rfl, hb2⟩
  simp only [strV]
  rw [HN.out, HR.out]
  have HB2 := Lib.hid hb2
  have CK := Lib.hid (known_any w2 m (((bcell HB2.out).1 _ _ h0).trans HM.out))
  clear hb2
  go_wp2_with fail
  refine CK.out.mono ?_
  rintro e w3 ⟨rfl, hb3⟩
  have HB3 := Lib.hid (HB2.out.trans (hb3.mono HB2.out.size))
  clear hb3
  go_wp2
  go_ret
  exact ⟨rfl, HB3.out⟩

set_option maxRecDepth 100000 in
theorem articleLevels_lifted (os : Os) (started : os.Started) (H : Type) (enc : TypeId × Value → H) :
    ReturnsInHanded {} Tryd.checked os 3 .any (fun w args => (Rows.articleLevelsSpec.pre enc Tryd.prog Tryd.f3 [] false w args ∧ laidMetH Tryd.prog Rows.articleLevelsRow.laid w) ∧ sizedMet enc Tryd.prog Tryd.f3 (OpenSpec.ofChange Rows.articleLevelsSpec) false w args) (Rows.articleLevelsSpec.post enc Tryd.prog Tryd.f3 false true false false) := by
  refine returns_shaped_laid (C := Tryd.checked) (X := fun w _ => laidMetH Tryd.prog Rows.articleLevelsRow.laid w) Tryd.own started (by kernel_rfl) Tryd.func3
    (ChangeSpec.witness_shaped (enc := enc) (C := Tryd.checked) (os := os) (X := fun w _ => laidMetH Tryd.prog Rows.articleLevelsRow.laid w) false (World.laidAll Tryd.prog os Rows.articleLevelsRow.laid) #[.string ⟨#[]⟩] 8 (World.laidAll_os _ _ _)
      (World.shaped_of_ZipB (by kernel_rfl) (by kernel_rfl)) (by kernel_rfl) (by kernel_rfl) (by kernel_rfl)
      (by rw [MakeChecks.laidMetH_plain _ _ _ (by kernel_rfl)]; exact laidMet_laidAll _ (by kernel_rfl) (by kernel_rfl))) ?_
  intro W base args ds gs before hval0 hW _ hsh
  have hval : ∀ (j : Nat) t v, Tryd.f3.params[j]? = some t → args[j]? = some v → Value.okWide Tryd.prog W .any base t v := hval0
  have hW' := hW
  obtain ⟨p, q, hA0, hV, rfl, hfz, hnd⟩ := hW
  have hA : DataW.TrodAll enc Tryd.prog W 0 (fun _ => true) true Tryd.f3.params.toList args.toList ds p := hA0
  rw [Tryd.params3] at hA hval
  obtain ⟨v0, d0, rfl, rfl, h0⟩ := trodAll_one hA
  obtain ⟨rfl, rfl⟩ := trodVars_none hV
  obtain ⟨s0, rfl, rfl, rfl, ws0⟩ := Go.ChangeMaps.open_string Tryd.underlying9 (hval 0 9 v0 rfl rfl) h0
  obtain ⟨m, hm⟩ := maxLen_cell hsh
  clear hA0 hval0
  simp only [List.append_nil] at hW'
  refine (levels_any s0 W m hm ws0).mono fun e W' ⟨he, hb⟩ => ?_
  subst he
  refine ⟨_, rfl, post_of_below (pa := []) (pv := []) hW' (fun _ _ _ => trodAll_mk1 (shut_bool Tryd.underlying4 true)) (fun sp _ => trodAll_mk1 (Go.ChangeMaps.shut_string Tryd.underlying9 ws0)) (fun _ _ => rfl) rfl hb (ok_one (by kernel_rfl) rfl (okWide_bool_mk Tryd.underlying4 _))⟩

theorem articleLevels_row : Rows.ArticleLevelsSaid :=
  OpenClaim.holds_of_wide 3 Tryd.f3 rfl rfl rfl rfl rfl rfl rfl ⟨rfl, rfl, rfl, rfl, rfl⟩ rfl rfl rfl rfl rfl (by kernel_rfl) Tryd.func3 (by kernel_rfl)
    (of_decide_eq_true (by kernel_rfl)) (by unfold Func.isWrapper; first | (rw [if_pos (by decide +kernel)]; kernel_rfl) | (rw [if_neg (by decide +kernel)]; exact ⟨rfl, rfl⟩))
    (fun os started H enc _ => articleLevels_lifted os started H enc)
/-- The tied card. -/
theorem articleLevels_holds : Rows.ArticleLevelsCardSaid :=
  Claim7.holds_tied_plain_at .later [] [.data, .pinned] true (true, "2e02bc7d7ed9468b3ae6bce34c5ec3fd626fa3cfa8a5b2e5390709af8f7d349f") false
    articleLevels_row (fun _ h => by cases h) (by kernel_rfl) (fun _ h => by cases h) articleLevels_row_tie rfl ⟨rfl, rfl⟩ (by kernel_rfl) rfl
    (fun f fn hf hfn => by
      obtain rfl : f = 3 := Option.some.inj ((show Tryd.prog.funcNamed "bulletin/bulletinlaw15.ArticleLevels" = some 3 by kernel_rfl).symm.trans hf) |>.symm
      obtain rfl : fn = Tryd.f3 := (Option.some.inj (Tryd.func3.symm.trans hfn)).symm
      exact ⟨by kernel_rfl, fun j t ht => by
        rw [Tryd.params3] at ht
        have hm : t ∈ [9] := by simpa using Array.mem_of_getElem? ht
        have hall : ([9].all fun u => !Tryd.prog.wantsStandIn u) = true := by kernel_rfl
        exact (show Tryd.prog.wantsStandIn t = false by simpa using List.all_eq_true.1 hall t hm)⟩)
    (by kernel_rfl)
end Go.Proofs.YteecmcphbehfgaaDoor
