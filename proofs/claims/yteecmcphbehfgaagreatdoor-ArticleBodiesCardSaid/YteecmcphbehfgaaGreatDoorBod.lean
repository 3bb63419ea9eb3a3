/- ArticleBodies holds: for every text the law returns true, and the text reads as before; and its tied card.
   Conditions: none beyond the row's own. -/
import Derived.Test.YteecmcphbehfgaaGreatDoorLiftB
import Derived.Test.YteecmcphbehfgaaGreatDoorB3
namespace Go.Proofs.YteecmcphbehfgaaGreatDoor
open Go.ChangeShapes Go.WideShapes Go.ChangeAt Go.RowKit Go.Lib

theorem short_any (s : ByteArray) (n : Nat) (hs : s.size ≤ 9223372036854775807) (hn : n ≤ 1000000) (w : World) : Calls Tryz.prog 11 #[.string s, .int .i64 (n : Int)] w fun e w' => e = .returned (.string (s.extract 0 (min s.size n))) ∧ w' = w := by
  have e3 : (min (s.size : Int) (n : Int)).toNat = min s.size n := by omega
  have E3 := Lib.hid e3
  clear e3
  by_cases h : s.size < n
  · go_enter Tryz.func11, Tryz.ntmps11
    go_wp2
    go_ret
    refine ⟨?_, rfl⟩
    show Ending.returned (.string (s.extract 0 (min (s.size : Int) (n : Int)).toNat)) = _
    rw [E3.out]
  · go_enter Tryz.func11, Tryz.ntmps11
    go_wp2
    go_ret
    refine ⟨?_, rfl⟩
    show Ending.returned (.string (s.extract 0 (min (s.size : Int) (n : Int)).toNat)) = _
    rw [E3.out]
theorem short_size (s : ByteArray) (n : Nat) : (s.extract 0 (min s.size n)).size ≤ n := by simp; omega

set_option maxRecDepth 10000 in
set_option maxHeartbeats 1000000 in
theorem bodies_any (s : ByteArray) (w : World) (m : Int) (hm : w.cell? ⟨0, 0, none⟩ = some (.int .i64 m)) (hs : s.size ≤ 9223372036854775807) :
    Calls Tryz.prog 3 #[.string s] w fun e w' => e = .returned (.bool true) ∧ Below w.heap.size w w' := by
  have h0 : 0 < w.heap.size := by
    rcases Nat.eq_zero_or_pos w.heap.size with h | h
    · simp [World.cell?, Array.getElem?_eq_none (show w.heap.size ≤ 0 by omega)] at hm
    · exact h
  have HM := Lib.hid hm
  have CS : Hid (∀ W, Calls Tryz.prog 11 #[.string s, .int .i64 4000] W fun e w' => e = .returned (.string (s.extract 0 (min s.size 4000))) ∧ w' = W) := Lib.hid (short_any s 4000 hs (by decide))
  have htz := short_size s 4000
  generalize s.extract 0 (min s.size 4000) = t at *
  have C1 := Lib.hid (checkBody_any t (by omega))
  have C2 := Lib.hid (rbody_any t (by omega))
  obtain ⟨⟨ca, cc⟩, hck⟩ : ∃ q, ckI t.data.toList = q := ⟨_, rfl⟩
  have HCK := Lib.hid hck
  clear hm hck
  go_enter Tryz.func3, Tryz.ntmps3
  go_wp2_with fail
  refine (CS.out _).mono ?_
  rintro e w' ⟨rfl, rfl⟩
  go_wp2_with fail
  refine (C1.out _).mono ?_
  rintro e w1 ⟨rfl, hb1⟩
  rw [HCK.out]
  have HB1 := Lib.hid hb1
  clear hb1
  go_wp2_with fail
  refine (C2.out _).mono ?_
  rintro e w2 ⟨rfl, hb2⟩
  rw [HCK.out]
  have HB2 := Lib.hid (HB1.out.trans (hb2.mono HB1.out.size))
  have CK := Lib.hid (known_any w2 m (((bcell HB2.out).1 _ _ h0).trans HM.out))
  clear hb2
  go_wp2_with fail
  refine CK.out.mono ?_
  rintro e w3 ⟨rfl, hb3⟩
  have HB3 := Lib.hid (HB2.out.trans (hb3.mono HB2.out.size))
  clear hb3
  go_wp2
  go_ret
  exact ⟨rfl, HB3.out⟩

set_option maxRecDepth 100000 in
theorem articleBodies_lifted (os : Os) (started : os.Started) (H : Type) (enc : TypeId × Value → H) :
    ReturnsInHanded {} Tryz.checked os 3 .any (fun w args => (Rows.articleBodiesSpec.pre enc Tryz.prog Tryz.f3 [] false w args ∧ laidMetH Tryz.prog Rows.articleBodiesRow.laid w) ∧ sizedMet enc Tryz.prog Tryz.f3 (OpenSpec.ofChange Rows.articleBodiesSpec) false w args) (Rows.articleBodiesSpec.post enc Tryz.prog Tryz.f3 false true false false) := by
  refine returns_shaped_laid (C := Tryz.checked) (X := fun w _ => laidMetH Tryz.prog Rows.articleBodiesRow.laid w) Tryz.own started (by kernel_rfl) Tryz.func3
    (ChangeSpec.witness_shaped (enc := enc) (C := Tryz.checked) (os := os) (X := fun w _ => laidMetH Tryz.prog Rows.articleBodiesRow.laid w) false (World.laidAll Tryz.prog os Rows.articleBodiesRow.laid) #[.string ⟨#[]⟩] 8 (World.laidAll_os _ _ _)
      (World.shaped_of_ZipB (by kernel_rfl) (by kernel_rfl)) (by kernel_rfl) (by kernel_rfl) (by kernel_rfl)
      (by rw [MakeChecks.laidMetH_plain _ _ _ (by kernel_rfl)]; exact laidMet_laidAll _ (by kernel_rfl) (by kernel_rfl))) ?_
  intro W base args ds gs before hval0 hW _ hsh
  have hval : ∀ (j : Nat) t v, Tryz.f3.params[j]? = some t → args[j]? = some v → Value.okWide Tryz.prog W .any base t v := hval0
  have hW' := hW
  obtain ⟨p, q, hA0, hV, rfl, hfz, hnd⟩ := hW
  have hA : DataW.TrodAll enc Tryz.prog W 0 (fun _ => true) true Tryz.f3.params.toList args.toList ds p := hA0
  rw [Tryz.params3] at hA hval
  obtain ⟨v0, d0, rfl, rfl, h0⟩ := trodAll_one hA
  obtain ⟨rfl, rfl⟩ := trodVars_none hV
  obtain ⟨s0, rfl, rfl, rfl, ws0⟩ := Go.ChangeMaps.open_string Tryz.underlying9 (hval 0 9 v0 rfl rfl) h0
  obtain ⟨m, hm⟩ := maxLen_cell hsh
  clear hA0 hval0
  simp only [List.append_nil] at hW'
  refine (bodies_any s0 W m hm ws0).mono fun e W' ⟨he, hb⟩ => ?_
  subst he
  refine ⟨_, rfl, post_of_below (pa := []) (pv := []) hW' (fun _ _ _ => trodAll_mk1 (shut_bool Tryz.underlying4 true)) (fun sp _ => trodAll_mk1 (Go.ChangeMaps.shut_string Tryz.underlying9 ws0)) (fun _ _ => rfl) rfl hb (ok_one (by kernel_rfl) rfl (okWide_bool_mk Tryz.underlying4 _))⟩

theorem articleBodies_row : Rows.ArticleBodiesSaid :=
  OpenClaim.holds_of_wide 3 Tryz.f3 rfl rfl rfl rfl rfl rfl rfl ⟨rfl, rfl, rfl, rfl, rfl⟩ rfl rfl rfl rfl rfl (by kernel_rfl) Tryz.func3 (by kernel_rfl)
    (of_decide_eq_true (by kernel_rfl)) (by unfold Func.isWrapper; first | (rw [if_pos (by decide +kernel)]; kernel_rfl) | (rw [if_neg (by decide +kernel)]; exact ⟨rfl, rfl⟩))
    (fun os started H enc _ => articleBodies_lifted os started H enc)
/-- The tied card. -/
theorem articleBodies_holds : Rows.ArticleBodiesCardSaid :=
  Claim7.holds_tied_plain_at .later [] [.data, .pinned] true (true, "1ccf7410fb085e21d3fd65167d94457e830c03b106e6c31fee71eb462a0a0c80") false
    articleBodies_row (fun _ h => by cases h) (by kernel_rfl) (fun _ h => by cases h) articleBodies_row_tie rfl ⟨rfl, rfl⟩ (by kernel_rfl) rfl
    (fun f fn hf hfn => by
      obtain rfl : f = 3 := Option.some.inj ((show Tryz.prog.funcNamed "bulletin/bulletinlaw15.ArticleBodies" = some 3 by kernel_rfl).symm.trans hf) |>.symm
      obtain rfl : fn = Tryz.f3 := (Option.some.inj (Tryz.func3.symm.trans hfn)).symm
      exact ⟨by kernel_rfl, fun j t ht => by
        rw [Tryz.params3] at ht
        have hm : t ∈ [9] := by simpa using Array.mem_of_getElem? ht
        have hall : ([9].all fun u => !Tryz.prog.wantsStandIn u) = true := by kernel_rfl
        exact (show Tryz.prog.wantsStandIn t = false by simpa using List.all_eq_true.1 hall t hm)⟩)
    (by kernel_rfl)
end Go.Proofs.YteecmcphbehfgaaGreatDoor
