/- ArticleFromLine holds: for every text the law returns true, and the text reads as before; and its tied card.
   Conditions: none beyond the row's own. -/
import Derived.Test.YteecmcphbehfgaaGreatDoorTB
namespace Go.Proofs.YteecmcphbehfgaaGreatDoor
open Go.ChangeShapes Go.WideShapes Go.ChangeAt Go.RowKit Go.Lib

set_option maxRecDepth 100000 in
set_option maxHeartbeats 4000000 in
theorem fromLines_any (s : ByteArray) (w : World) (m : Int) (hm : w.cell? ⟨0, 0, none⟩ = some (.int .i64 m)) (hs : s.size ≤ 9223372036854775807) :
    Calls Tryz.prog 9 #[.string s] w fun e w' => e = .returned (.bool true) ∧ Below w.heap.size w w' := by
  have h0 : 0 < w.heap.size := by
    rcases Nat.eq_zero_or_pos w.heap.size with h | h
    · simp [World.cell?, Array.getElem?_eq_none (show w.heap.size ≤ 0 by omega)] at hm
    · exact h
  have HM := Lib.hid hm
  have CS : Hid (∀ W, Calls Tryz.prog 11 #[.string s, .int .i64 3000] W fun e w' => e = .returned (.string (s.extract 0 (min s.size 3000))) ∧ w' = W) := Lib.hid (short_any s 3000 hs (by decide))
  have htz := short_size s 3000
  generalize s.extract 0 (min s.size 3000) = t at *
  have C1 := Lib.hid (fromLine_any t (by omega) w m hm)
  have C2 := Lib.hid (rfromLine_any t (by omega))
  obtain ⟨X, hX⟩ : ∃ X, bsOf (flS t.data.toList).1 = X := ⟨_, rfl⟩
  obtain ⟨o, hof⟩ : ∃ c, (flS t.data.toList).2.1 = c := ⟨_, rfl⟩
  obtain ⟨c, hc⟩ : ∃ c, (flS t.data.toList).2.2 = c := ⟨_, rfl⟩
  have hXd : X.data.toList = (flS t.data.toList).1 := by rw [← hX, bsOf_data]
  have hXz : X.size ≤ 3000 := by
    have h1 := flS_len t.data.toList
    rw [show t.data.toList.length = t.size by simp] at h1
    rw [← hX, bsOf_size]
    omega
  have C3 : Hid (∀ W : World, W.cell? ⟨0, 0, none⟩ = some (.int .i64 m) → Calls Tryz.prog 29 #[.string X] W (TlPost X.data.toList W)) := Lib.hid (fun W h => toLine_any X (by omega) W m h)
  obtain ⟨Y, hY⟩ : ∃ Y, bsOf (tlS X.data.toList).1 = Y := ⟨_, rfl⟩
  obtain ⟨f2, hf2⟩ : ∃ f, (tlS X.data.toList).2 = f := ⟨_, rfl⟩
  have HST : Hid (c = 0 → Y = t ∧ f2 = 0) := Lib.hid (fun h => by
    have h2 := to_from (hc.trans h)
    rw [← hXd] at h2
    rw [← hY, ← hf2, h2]
    exact ⟨bsOf_eta t, rfl⟩)
  have HX := Lib.hid hX
  have HOF := Lib.hid hof
  have HC := Lib.hid hc
  have HY := Lib.hid hY
  have HF2 := Lib.hid hf2
  clear hm hX hof hc hXd hY hf2
  go_enter Tryz.func9, Tryz.ntmps9
  go_wp2_with fail
  refine (CS.out _).mono ?_
  rintro e w' ⟨rfl, rfl⟩
  go_wp2_with fail
  refine C1.out.mono ?_
  rintro e w1 ⟨rfl, hb1⟩
  simp only [strV]
  rw [HX.out, HOF.out, HC.out]
  have HB1 := Lib.hid hb1
  clear hb1
  go_wp2_with fail
  refine (C2.out _).mono ?_
  rintro e w2 ⟨rfl, hb2⟩
  simp only [strV]
  rw [HX.out, HOF.out, HC.out]
  have HB2 := Lib.hid (HB1.out.trans (hb2.mono HB1.out.size))
  have CF := Lib.hid (C3.out w2 (((bcell HB2.out).1 _ _ h0).trans HM.out))
  clear hb2
  go_wp2_with fail
  refine CF.out.mono ?_
  rintro e w3 ⟨rfl, hb3⟩
  simp only [strV]
  rw [HY.out, HF2.out]
  have HB3 := Lib.hid (HB2.out.trans (hb3.mono HB2.out.size))
  have CK := Lib.hid (known_any w3 m (((bcell HB3.out).1 _ _ h0).trans HM.out))
  clear hb3
  go_wp2_with fail
  refine CK.out.mono ?_
  rintro e w4 ⟨rfl, hb4⟩
  have HB4 := Lib.hid (HB3.out.trans (hb4.mono HB3.out.size))
  clear hb4
  by_cases hc0 : c = 0
  · obtain ⟨hYt, rfl⟩ := HST.out hc0
    subst hc0
    subst hYt
    go_wp2
    go_ret
    exact ⟨rfl, HB4.out⟩
  · have hcb : (c == 0) = false := by simp [hc0]
    have hcb2 : decide (c = 0) = false := by simp [hc0]
    have hcd : (c != 0) = true := by simp [hc0]
    go_wp2
    go_ret
    exact ⟨rfl, HB4.out⟩

set_option maxRecDepth 100000 in
theorem articleFromLine_lifted (os : Os) (started : os.Started) (H : Type) (enc : TypeId × Value → H) :
    ReturnsInHanded {} Tryz.checked os 9 .any (fun w args => (Rows.articleFromLineSpec.pre enc Tryz.prog Tryz.f9 [] false w args ∧ laidMetH Tryz.prog Rows.articleFromLineRow.laid w) ∧ sizedMet enc Tryz.prog Tryz.f9 (OpenSpec.ofChange Rows.articleFromLineSpec) false w args) (Rows.articleFromLineSpec.post enc Tryz.prog Tryz.f9 false true false false) := by
  refine returns_shaped_laid (C := Tryz.checked) (X := fun w _ => laidMetH Tryz.prog Rows.articleFromLineRow.laid w) Tryz.own started (by kernel_rfl) Tryz.func9
    (ChangeSpec.witness_shaped (enc := enc) (C := Tryz.checked) (os := os) (X := fun w _ => laidMetH Tryz.prog Rows.articleFromLineRow.laid w) false (World.laidAll Tryz.prog os Rows.articleFromLineRow.laid) #[.string ⟨#[]⟩] 8 (World.laidAll_os _ _ _)
      (World.shaped_of_ZipB (by kernel_rfl) (by kernel_rfl)) (by kernel_rfl) (by kernel_rfl) (by kernel_rfl)
      (by rw [MakeChecks.laidMetH_plain _ _ _ (by kernel_rfl)]; exact laidMet_laidAll _ (by kernel_rfl) (by kernel_rfl))) ?_
  intro W base args ds gs before hval0 hW _ hsh
  have hval : ∀ (j : Nat) t v, Tryz.f9.params[j]? = some t → args[j]? = some v → Value.okWide Tryz.prog W .any base t v := hval0
  have hW' := hW
  obtain ⟨p, q, hA0, hV, rfl, hfz, hnd⟩ := hW
  have hA : DataW.TrodAll enc Tryz.prog W 0 (fun _ => true) true Tryz.f9.params.toList args.toList ds p := hA0
  rw [Tryz.params9] at hA hval
  obtain ⟨v0, d0, rfl, rfl, h0⟩ := trodAll_one hA
  obtain ⟨rfl, rfl⟩ := trodVars_none hV
  obtain ⟨s0, rfl, rfl, rfl, ws0⟩ := Go.ChangeMaps.open_string Tryz.underlying9 (hval 0 9 v0 rfl rfl) h0
  obtain ⟨m, hm⟩ := maxLen_cell hsh
  clear hA0 hval0
  simp only [List.append_nil] at hW'
  refine (fromLines_any s0 W m hm ws0).mono fun e W' ⟨he, hb⟩ => ?_
  subst he
  refine ⟨_, rfl, post_of_below (pa := []) (pv := []) hW' (fun _ _ _ => trodAll_mk1 (shut_bool Tryz.underlying4 true)) (fun sp _ => trodAll_mk1 (Go.ChangeMaps.shut_string Tryz.underlying9 ws0)) (fun _ _ => rfl) rfl hb (ok_one (by kernel_rfl) rfl (okWide_bool_mk Tryz.underlying4 _))⟩

theorem articleFromLine_row : Rows.ArticleFromLineSaid :=
  OpenClaim.holds_of_wide 9 Tryz.f9 rfl rfl rfl rfl rfl rfl rfl ⟨rfl, rfl, rfl, rfl, rfl⟩ rfl rfl rfl rfl rfl (by kernel_rfl) Tryz.func9 (by kernel_rfl)
    (of_decide_eq_true (by kernel_rfl)) (by unfold Func.isWrapper; first | (rw [if_pos (by decide +kernel)]; kernel_rfl) | (rw [if_neg (by decide +kernel)]; exact ⟨rfl, rfl⟩))
    (fun os started H enc _ => articleFromLine_lifted os started H enc)
/-- The tied card. -/
theorem articleFromLine_holds : Rows.ArticleFromLineCardSaid :=
  Claim7.holds_tied_plain_at .later [] [.data, .pinned] true (true, "1ccf7410fb085e21d3fd65167d94457e830c03b106e6c31fee71eb462a0a0c80") false
    articleFromLine_row (fun _ h => by cases h) (by kernel_rfl) (fun _ h => by cases h) articleFromLine_row_tie rfl ⟨rfl, rfl⟩ (by kernel_rfl) rfl
    (fun f fn hf hfn => by
      obtain rfl : f = 9 := Option.some.inj ((show Tryz.prog.funcNamed "bulletin/bulletinlaw15.ArticleFromLine" = some 9 by kernel_rfl).symm.trans hf) |>.symm
      obtain rfl : fn = Tryz.f9 := (Option.some.inj (Tryz.func9.symm.trans hfn)).symm
      exact ⟨by kernel_rfl, fun j t ht => by
        rw [Tryz.params9] at ht
        have hm : t ∈ [9] := by simpa using Array.mem_of_getElem? ht
        have hall : ([9].all fun u => !Tryz.prog.wantsStandIn u) = true := by kernel_rfl
        exact (show Tryz.prog.wantsStandIn t = false by simpa using List.all_eq_true.1 hall t hm)⟩)
    (by kernel_rfl)
end Go.Proofs.YteecmcphbehfgaaGreatDoor
