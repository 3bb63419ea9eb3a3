/- ArticleQuotes holds: for every text the law returns true, and the text reads as before; and its tied card.
   Conditions: none beyond the row's own. -/
import Derived.Test.YteecmcphbehfgaaGreatDoorCA
namespace Go.Proofs.YteecmcphbehfgaaGreatDoor
open Go.ChangeShapes Go.WideShapes Go.ChangeAt Go.RowKit Go.Lib

theorem quS_len (l : List UInt8) : (quS l).1.length ≤ 65536 := by
  unfold quS
  split
  · exact Nat.zero_le _
  · split
    · exact Nat.zero_le _
    · split
      · exact Nat.zero_le _
      · rename_i h
        exact Nat.le_of_not_lt h
theorem quL_outs : ∀ (L : List (Nat × List UInt8)) (acc out : List UInt8), quL L acc = some out → out = acc ++ outL L
  | [], acc, out, h => by
    injection h with h
    rw [← h]; simp [outL]
  | x :: r, acc, out, h => by
    unfold quL at h
    by_cases hx : 998 < (qtL x.2).length
    · rw [if_pos hx] at h; cases h
    · rw [if_neg hx] at h
      rw [quL_outs r _ _ h]
      simp [outL]
theorem quS_fine {l : List UInt8} (h : (quS l).2 = 0) : (quS l).1 = outL (lineI l) := by
  unfold quS at h ⊢
  by_cases hc : (ckI l).2 ≠ 0
  · rw [if_pos hc] at h
    exact absurd h hc
  · rw [if_neg hc] at h ⊢
    cases hq : quL (lineI l) [] with
    | none => rw [hq] at h; exact absurd h (by decide)
    | some out =>
      rw [hq] at h
      simp only at h ⊢
      by_cases hl : 65536 < out.length
      · rw [if_pos hl] at h; exact absurd h (by decide)
      · rw [if_neg hl]
        simpa using quL_outs _ _ _ hq
set_option maxRecDepth 100000 in
set_option maxHeartbeats 4000000 in
theorem quotes_any (s : ByteArray) (w : World) (m : Int) (hm : w.cell? ⟨0, 0, none⟩ = some (.int .i64 m)) (hs : s.size ≤ 9223372036854775807) :
    Calls Tryz.prog 6 #[.string s] w fun e w' => e = .returned (.bool true) ∧ Below w.heap.size w w' := by
  have h0 : 0 < w.heap.size := by
    rcases Nat.eq_zero_or_pos w.heap.size with h | h
    · simp [World.cell?, Array.getElem?_eq_none (show w.heap.size ≤ 0 by omega)] at hm
    · exact h
  have HM := Lib.hid hm
  have CS : Hid (∀ W, Calls Tryz.prog 11 #[.string s, .int .i64 3000] W fun e w' => e = .returned (.string (s.extract 0 (min s.size 3000))) ∧ w' = W) := Lib.hid (short_any s 3000 hs (by decide))
  have htz := short_size s 3000
  generalize s.extract 0 (min s.size 3000) = t at *
  have C1 := Lib.hid (quote_any t (by omega))
  have C2 := Lib.hid (rquote_any t (by omega))
  have C3 := Lib.hid (rlines_any t (by omega))
  obtain ⟨Q, hQ⟩ : ∃ Q, bsOf (quS t.data.toList).1 = Q := ⟨_, rfl⟩
  obtain ⟨c, hc⟩ : ∃ c, (quS t.data.toList).2 = c := ⟨_, rfl⟩
  have hQd : Q.data.toList = (quS t.data.toList).1 := by rw [← hQ, bsOf_data]
  have hQz : Q.size ≤ 65536 := by rw [← hQ, bsOf_size]; exact quS_len _
  have C4 := Lib.hid (rlines_any Q (by omega))
  have hln := lineI_len t.data.toList
  rw [show t.data.toList.length = t.size by simp] at hln
  obtain ⟨n, hn⟩ : ∃ n, (lineL t.data.toList).length = n := ⟨_, rfl⟩
  have hn1 : n ≤ 3000 := by rw [← hn]; unfold lineL; rw [List.length_map]; omega
  have HLN : Hid (c = 0 → lineL Q.data.toList = (lineL t.data.toList).map qtL) := Lib.hid (fun h => by rw [hQd, quS_fine (hc.trans h)]; exact lineL_out _)
  have HQ := Lib.hid hQ
  have HC := Lib.hid hc
  have HN := Lib.hid hn
  clear hm hQ hc hQd hn hln
  go_enter Tryz.func6, Tryz.ntmps6
  go_wp2_with fail
  refine (CS.out _).mono ?_
  rintro e w' ⟨rfl, rfl⟩
  go_wp2_with fail
  refine (C1.out _).mono ?_
  rintro e w1 ⟨rfl, hb1⟩
  simp only [strV]
  rw [HQ.out, HC.out]
  have HB1 := Lib.hid hb1
  clear hb1
  go_wp2_with fail
  refine (C2.out _).mono ?_
  rintro e w2 ⟨rfl, hb2⟩
  simp only [strV]
  rw [HQ.out, HC.out]
  have HB2 := Lib.hid (HB1.out.trans (hb2.mono HB1.out.size))
  have CK := Lib.hid (known_any w2 m (((bcell HB2.out).1 _ _ h0).trans HM.out))
  clear hb2
  go_wp2_with fail
  refine CK.out.mono ?_
  rintro e w3 ⟨rfl, hb3⟩
  have HB3 := Lib.hid (HB2.out.trans (hb3.mono HB2.out.size))
  clear hb3
  go_wp2_with fail
  refine (C3.out _).mono ?_
  rintro e w4 ⟨v4, rfl, hown4, hb4⟩
  rw [HN.out] at hown4
  obtain ⟨A4, cap4, rfl⟩ := own_shape hown4
  have HO4 := Lib.hid hown4
  have HB4 := Lib.hid (HB3.out.trans (hb4.mono HB3.out.size))
  clear hown4 hb4
  go_wp2_with fail
  refine (C4.out _).mono ?_
  rintro e w5 ⟨v5, rfl, hown5, hb5⟩
  obtain ⟨n5, hn5⟩ : ∃ n5, (lineL Q.data.toList).length = n5 := ⟨_, rfl⟩
  have hn5z : n5 ≤ 65536 := by
    rw [← hn5]; unfold lineL; rw [List.length_map]
    have := lineI_len Q.data.toList
    rw [show Q.data.toList.length = Q.size by simp] at this
    omega
  rw [hn5] at hown5
  obtain ⟨A5, cap5, rfl⟩ := own_shape hown5
  have HN5 := Lib.hid hn5
  have HO5 := Lib.hid hown5
  have HO4 := Lib.hid (own_kept HO4.out (kept_of_below hb5) (fun _ _ f => f))
  have HB5 := Lib.hid (HB4.out.trans (hb5.mono HB4.out.size))
  clear hown5 hb5 hn5
  by_cases hc0 : c = 0
  · subst hc0
    have hL := HLN.out rfl
    have h5n : n5 = n := by rw [← HN5.out, hL, List.length_map, HN.out]
    subst h5n
    have HL := Lib.hid hL
    clear hL
    go_wp2_with fail
    go_loopw [9] (fun v wr => ∃ k : Nat, v = .int .i64 k ∧ k ≤ n5 ∧ Below w5.heap.size w5 wr) (fun v _ => n5 - (RowKit.intOf v).toNat)
    case atStart => exact ⟨0, rfl, Nat.zero_le _, Below.refl _ _⟩
    case round =>
      obtain ⟨k, rfl, hk, hb⟩ := hrel
      have HB := Lib.hid hb
      have HOa := Lib.hid (own_kept HO4.out (kept_of_below hb) (fun _ _ f => f))
      have HOb := Lib.hid (own_kept HO5.out (kept_of_below hb) (fun _ _ f => f))
      clear hb
      by_cases hlt : k < n5
      · have hlt' : k < (lineL t.data.toList).length := by rw [HN.out]; exact hlt
        obtain ⟨g4, cap4', he4, _, hg4, hcc4, hcell4⟩ := own_cell HOa.out (by omega)
        injection he4 with e1 _ e2
        subst e1; subst e2
        obtain ⟨g5, cap5', he5, _, hg5, hcc5, hcell5⟩ := own_cell HOb.out (by omega)
        injection he5 with e1 _ e2
        subst e1; subst e2
        obtain ⟨X, hX⟩ : ∃ X, bsOf (lineL t.data.toList)[k] = X := ⟨_, rfl⟩
        obtain ⟨Y, hY⟩ : ∃ Y, bsOf (qtL (lineL t.data.toList)[k]) = Y := ⟨_, rfl⟩
        have ck4 := hcell4 k (.string X) (by rw [List.getElem?_map, List.getElem?_eq_getElem hlt', ← hX]; rfl)
        have ck5 := hcell5 k (.string Y) (by rw [HL.out, List.getElem?_map, List.getElem?_map, List.getElem?_eq_getElem hlt', ← hY]; rfl)
        have hXd : X.data.toList = (lineL t.data.toList)[k] := by rw [← hX, bsOf_data]
        have hYd : Y.data.toList = qtL X.data.toList := by rw [← hY, bsOf_data, hXd]
        have hXs : X.size ≤ 4000 := by
          obtain ⟨y, hy, e⟩ := List.mem_map.1 (show (lineL t.data.toList)[k] ∈ (lineI t.data.toList).map (·.2) from List.getElem_mem hlt')
          have h1 := lineI_sum hy
          rw [show t.data.toList.length = t.size by simp, e, ← hXd, show X.data.toList.length = X.size by simp] at h1
          omega
        have hYs : Y.size ≤ 4002 := by
          have h1 := qtL_len X.data.toList
          rw [← hYd, show X.data.toList.length = X.size by simp, show Y.data.toList.length = Y.size by simp] at h1
          omega
        have CX := Lib.hid (level_any X (by omega) wr)
        have CY := Lib.hid (level_any Y (by omega) wr)
        obtain ⟨q1, q2⟩ := qtL_level X.data.toList
        rw [← hYd] at q1 q2
        obtain ⟨a, ha⟩ : ∃ a, lvN X.data.toList = a := ⟨_, rfl⟩
        obtain ⟨R, hR⟩ : ∃ R, bsOf (lvR X.data.toList) = R := ⟨_, rfl⟩
        have hal : a ≤ 4000 := by
          have h1 := lv_len X.data.toList
          rw [show X.data.toList.length = X.size by simp] at h1
          omega
        rw [ha] at q1
        have Q1 := Lib.hid q1
        have Q2 := Lib.hid q2
        have HA := Lib.hid ha
        have HR := Lib.hid hR
        clear hcell4 hcell5 hX hY hXd hYd q1 q2 ha hR
        go_wp2_with fail
        refine CX.out.mono ?_
        rintro e w6 ⟨rfl, rfl⟩
        simp only [strV]
        rw [HA.out, HR.out]
        go_wp2_with fail
        refine CY.out.mono ?_
        rintro e w6 ⟨rfl, rfl⟩
        simp only [strV]
        rw [Q1.out, Q2.out, HR.out]
        go_wp2
        go_roundw
        case rel => exact ⟨k + 1, by go_num, by omega, HB.out⟩
        case measure => simp [RowKit.intOf]; omega
      · go_wp2
        go_ret
        exact ⟨rfl, HB5.out.trans (HB.out.mono HB5.out.size)⟩
  · have hcb : (c == 0) = false := by simp [hc0]
    have hcb2 : decide (c = 0) = false := by simp [hc0]
    have hcd : (c != 0) = true := by simp [hc0]
    go_wp2_with fail
    go_loopw [9] (fun v wr => v = .int .i64 0 ∧ wr = w5) (fun _ _ => 0)
    case atStart => exact ⟨rfl, rfl⟩
    case round =>
      obtain ⟨rfl, rfl⟩ := hrel
      by_cases hlt : 0 < n
      · go_wp2
        go_ret
        exact ⟨rfl, HB5.out⟩
      · go_wp2
        go_ret
        exact ⟨rfl, HB5.out⟩

set_option maxRecDepth 100000 in
theorem articleQuotes_lifted (os : Os) (started : os.Started) (H : Type) (enc : TypeId × Value → H) :
    ReturnsInHanded {} Tryz.checked os 6 .any (fun w args => (Rows.articleQuotesSpec.pre enc Tryz.prog Tryz.f6 [] false w args ∧ laidMetH Tryz.prog Rows.articleQuotesRow.laid w) ∧ sizedMet enc Tryz.prog Tryz.f6 (OpenSpec.ofChange Rows.articleQuotesSpec) false w args) (Rows.articleQuotesSpec.post enc Tryz.prog Tryz.f6 false true false false) := by
  refine returns_shaped_laid (C := Tryz.checked) (X := fun w _ => laidMetH Tryz.prog Rows.articleQuotesRow.laid w) Tryz.own started (by kernel_rfl) Tryz.func6
    (ChangeSpec.witness_shaped (enc := enc) (C := Tryz.checked) (os := os) (X := fun w _ => laidMetH Tryz.prog Rows.articleQuotesRow.laid w) false (World.laidAll Tryz.prog os Rows.articleQuotesRow.laid) #[.string ⟨#[]⟩] 8 (World.laidAll_os _ _ _)
      (World.shaped_of_ZipB (by kernel_rfl) (by kernel_rfl)) (by kernel_rfl) (by kernel_rfl) (by kernel_rfl)
      (by rw [MakeChecks.laidMetH_plain _ _ _ (by kernel_rfl)]; exact laidMet_laidAll _ (by kernel_rfl) (by kernel_rfl))) ?_
  intro W base args ds gs before hval0 hW _ hsh
  have hval : ∀ (j : Nat) t v, Tryz.f6.params[j]? = some t → args[j]? = some v → Value.okWide Tryz.prog W .any base t v := hval0
  have hW' := hW
  obtain ⟨p, q, hA0, hV, rfl, hfz, hnd⟩ := hW
  have hA : DataW.TrodAll enc Tryz.prog W 0 (fun _ => true) true Tryz.f6.params.toList args.toList ds p := hA0
  rw [Tryz.params6] at hA hval
  obtain ⟨v0, d0, rfl, rfl, h0⟩ := trodAll_one hA
  obtain ⟨rfl, rfl⟩ := trodVars_none hV
  obtain ⟨s0, rfl, rfl, rfl, ws0⟩ := Go.ChangeMaps.open_string Tryz.underlying9 (hval 0 9 v0 rfl rfl) h0
  obtain ⟨m, hm⟩ := maxLen_cell hsh
  clear hA0 hval0
  simp only [List.append_nil] at hW'
  refine (quotes_any s0 W m hm ws0).mono fun e W' ⟨he, hb⟩ => ?_
  subst he
  refine ⟨_, rfl, post_of_below (pa := []) (pv := []) hW' (fun _ _ _ => trodAll_mk1 (shut_bool Tryz.underlying4 true)) (fun sp _ => trodAll_mk1 (Go.ChangeMaps.shut_string Tryz.underlying9 ws0)) (fun _ _ => rfl) rfl hb (ok_one (by kernel_rfl) rfl (okWide_bool_mk Tryz.underlying4 _))⟩

theorem articleQuotes_row : Rows.ArticleQuotesSaid :=
  OpenClaim.holds_of_wide 6 Tryz.f6 rfl rfl rfl rfl rfl rfl rfl ⟨rfl, rfl, rfl, rfl, rfl⟩ rfl rfl rfl rfl rfl (by kernel_rfl) Tryz.func6 (by kernel_rfl)
    (of_decide_eq_true (by kernel_rfl)) (by unfold Func.isWrapper; first | (rw [if_pos (by decide +kernel)]; kernel_rfl) | (rw [if_neg (by decide +kernel)]; exact ⟨rfl, rfl⟩))
    (fun os started H enc _ => articleQuotes_lifted os started H enc)
/-- The tied card. -/
theorem articleQuotes_holds : Rows.ArticleQuotesCardSaid :=
  Claim7.holds_tied_plain_at .later [] [.data, .pinned] true (true, "1ccf7410fb085e21d3fd65167d94457e830c03b106e6c31fee71eb462a0a0c80") false
    articleQuotes_row (fun _ h => by cases h) (by kernel_rfl) (fun _ h => by cases h) articleQuotes_row_tie rfl ⟨rfl, rfl⟩ (by kernel_rfl) rfl
    (fun f fn hf hfn => by
      obtain rfl : f = 6 := Option.some.inj ((show Tryz.prog.funcNamed "bulletin/bulletinlaw15.ArticleQuotes" = some 6 by kernel_rfl).symm.trans hf) |>.symm
      obtain rfl : fn = Tryz.f6 := (Option.some.inj (Tryz.func6.symm.trans hfn)).symm
      exact ⟨by kernel_rfl, fun j t ht => by
        rw [Tryz.params6] at ht
        have hm : t ∈ [9] := by simpa using Array.mem_of_getElem? ht
        have hall : ([9].all fun u => !Tryz.prog.wantsStandIn u) = true := by kernel_rfl
        exact (show Tryz.prog.wantsStandIn t = false by simpa using List.all_eq_true.1 hall t hm)⟩)
    (by kernel_rfl)
end Go.Proofs.YteecmcphbehfgaaGreatDoor
