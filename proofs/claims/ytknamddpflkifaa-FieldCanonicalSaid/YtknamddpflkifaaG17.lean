/- FieldCanonical holds: for every text the law returns true, and the text reads as before.
   Conditions: none. -/
import Derived.Test.YtknamddpflkifaaG16
namespace Go.Proofs.Ytknamddpflkifaa
open Go.ChangeShapes Go.WideShapes Go.ChangeAt Go.RowKit Go.Lib

set_option maxRecDepth 10000 in
set_option maxHeartbeats 4000000 in
theorem canonical_any (s : ByteArray) (w : World) (m : Int) (hm : w.cell? ⟨0, 0, none⟩ = some (.int .i64 m)) (hs : s.size ≤ 9223372036854775807) :
    Calls Try.prog 8 #[.string s] w fun e w' => e = .returned (.bool true) ∧ Below w.heap.size w w' := by
  have h0 := World.block_lt_of_cell? w _ hm
  have HM := Lib.hid hm
  clear hm
  obtain ⟨q, hq, hq1, hq2⟩ : ∃ q : Nat, min (s.size : Int) 70000 = q ∧ q ≤ s.size ∧ q ≤ 70000 := ⟨min s.size 70000, by omega, Nat.min_le_left _ _, Nat.min_le_right _ _⟩
  go_enter Try.func8, Try.ntmps8
  go_wp2_with fail
  have hSs : (s.extract 0 q).size ≤ 70000 := by simp; omega
  generalize s.extract 0 q = S at hSs ⊢
  have C1 := Lib.hid (parse_at S w m (by omega) HM.out)
  have CK := Lib.hid (fun W hm => known_any W m hm)
  obtain ⟨G, hG⟩ : ∃ G, (parseS S.data.toList).1 = G := ⟨_, rfl⟩
  obtain ⟨p, hp⟩ : ∃ p, (parseS S.data.toList).2.1 = p := ⟨_, rfl⟩
  obtain ⟨c, hc⟩ : ∃ c, (parseS S.data.toList).2.2 = c := ⟨_, rfl⟩
  have HS := parse_small S.data.toList
  rw [hG] at HS
  rw [hG, hp, hc] at C1
  have hS : Hid (CutS G) := Lib.hid ⟨by have := HS.1; omega, HS.2⟩
  have hn70 : G.length ≤ 70 := by have := HS.1; omega
  obtain ⟨ng, hng⟩ : ∃ ng, G.length = ng := ⟨_, rfl⟩
  have HNG := Lib.hid hng
  rw [hng] at hn70
  unfold ParseAt at C1
  rw [HNG.out] at C1
  refine C1.out.mono ?_
  rintro e w1 ⟨A1, cap1, rfl, hown1, hf1, hb1⟩
  have HO1 := Lib.hid hown1
  have HF1 := Lib.hid hf1
  have HB1 := Lib.hid hb1
  by_cases hc0 : c = 0
  case' neg =>
    have q1 : (c != 0) = true := by rw [bne, beq_eq_false_iff_ne.2 hc0]; rfl
    have hg0 : G = [] := by rw [← hG]; exact parse_none (by rw [hc]; exact hc0)
    have hng0 : ((ng : Int) == 0) = true := beq_iff_eq.2 (by rw [← hng, hg0]; rfl)
    have CK1 := Lib.hid (CK.out w1 (((bcell HB1.out).1 _ _ h0).trans HM.out))
    clear hc0 hg0 hG hp hc HS hng hq hown1 hf1 hb1 C1
    go_wp2_with fail
    refine CK1.out.mono ?_
    rintro e w2 ⟨rfl, hb2⟩
    have HB2 := Lib.hid (HB1.out.trans (hb2.mono HB1.out.size))
    clear hb2
    go_wp2
    go_ret
    exact ⟨rfl, HB2.out⟩
  subst hc0
  obtain ⟨out, hout⟩ : ∃ out, (printS G).1 = out := ⟨_, rfl⟩
  obtain ⟨code, hcode⟩ : ∃ code, (printS G).2 = code := ⟨_, rfl⟩
  have hVF : Hid (∀ f ∈ G, VF f) := Lib.hid (by rw [← hG]; exact (parse_allV hc).2.vf)
  have hpr := print_parsed hc
  rw [hG, hcode] at hpr
  have hll : S.data.toList.length = S.size := by simp
  rw [hll] at hpr
  have hpp : Hid (code = 0 → parseS out = (G, (0, 0)) ∧ out.length ≤ 65536) := Lib.hid (by
    intro h
    rw [← hcode] at h
    refine ⟨by rw [← hout]; exact print_parse h, ?_⟩
    rw [← hout]
    unfold printS at h ⊢
    split at h
    · cases h
    · rename_i h64
      rw [if_neg h64]
      exact (printL_ok G [] h).2.2)
  have HOUT := Lib.hid hout
  have HCODE := Lib.hid hcode
  have HPR := Lib.hid hpr
  clear hG hp hc HS hng hq hown1 hf1 hb1 C1 hout hcode hll hpr
  go_wp2
  go_loopw [6] (fun v wr => ∃ k : Nat, k ≤ ng ∧ v = .int .i64 k ∧ Below w1.heap.size w1 wr) (fun v _ => ng - (RowKit.intOf v).toNat)
  case atStart => exact ⟨0, Nat.zero_le _, rfl, Below.refl _ _⟩
  case round =>
    obtain ⟨k, hk, rfl, hbl⟩ := hrel
    have HBL := Lib.hid hbl
    have HFr := Lib.hid (HF1.out.below hbl)
    clear hbl
    by_cases hlt : k < ng
    · have hk' : k < G.length := by rw [HNG.out]; exact hlt
      obtain ⟨ad, rfl, hb0⟩ := HFr.out.at_ (by omega)
      obtain ⟨c0, c1⟩ := HFr.out.cell k ad hk' rfl
      have hv := hVF.out G[k] (List.getElem_mem hk')
      have z12 := hS.out.small G[k] (List.getElem_mem hk')
      obtain ⟨⟨fn, fb⟩, hfk⟩ : ∃ q, G[k] = q := ⟨_, rfl⟩
      rw [hfk] at c0 c1 hv z12
      simp only at c0 c1 z12
      have CC := fun W => check_any (bsOf fn) (bsOf fb) W (by rw [bsOf_size]; omega) (by rw [bsOf_size]; omega)
      rw [bsOf_data, bsOf_data, show checkI fn fb = 0 from hv.check] at CC
      have HCC := Lib.hid CC
      unfold strV at c0 c1
      clear hv z12 hfk CC
      go_wp2_with fail
      refine (HCC.out _).mono ?_
      rintro e w2 ⟨rfl, hb2⟩
      have HB2 := Lib.hid (HBL.out.trans (hb2.mono HBL.out.size))
      clear hb2
      go_wp2
      go_roundw
      case rel => exact ⟨k + 1, by omega, by go_num, HB2.out⟩
      case measure => simp [RowKit.intOf]; omega
    · obtain rfl : k = ng := by omega
      have HBW := Lib.hid (HB1.out.trans (HBL.out.mono HB1.out.size))
      have C2 := Lib.hid (print_any (fs := G) (v := .slice A1 k cap1) (own_kept (by rw [HNG.out]; exact HO1.out) (kept_of_below HBL.out) (fun _ _ f => f)) hS.out.big (by rw [HNG.out]; omega))
      unfold PrintPost at C2
      rw [HOUT.out, HCODE.out] at C2
      have hcc : (code = 5 ∧ 32768 < S.size) ∨ code = 0 := by
        rcases HPR.out with h | ⟨h1, h2⟩
        · exact .inr h
        · exact .inl ⟨h1, h2⟩
      rcases hcc with ⟨rfl, h3⟩ | rfl
      · go_wp2_with fail
        refine C2.out.mono ?_
        rintro e w2 ⟨rfl, hb2⟩
        have HB2 := Lib.hid (HBW.out.trans (hb2.mono HBW.out.size))
        clear hb2
        unfold strV
        go_wp2_with fail
        refine (CK.out _ (((bcell HB2.out).1 _ _ h0).trans HM.out)).mono ?_
        rintro e w3 ⟨rfl, hb3⟩
        have HB3 := Lib.hid (HB2.out.trans (hb3.mono HB2.out.size))
        clear hb3
        go_wp2
        go_ret
        exact ⟨ret_bool (decide_eq_true (by omega)), HB3.out⟩
      · obtain ⟨hps, h65⟩ := hpp.out (by simp)
        have HPS := Lib.hid hps
        clear hps
        go_wp2_with fail
        refine C2.out.mono ?_
        rintro e w2 ⟨rfl, hb2⟩
        have HB2 := Lib.hid (HBW.out.trans (hb2.mono HBW.out.size))
        have HF2 := Lib.hid (HFr.out.below hb2)
        have C3 := Lib.hid (parse_at (bsOf out) w2 m (by rw [bsOf_size]; omega) (((bcell HB2.out).1 _ _ h0).trans HM.out))
        unfold ParseAt at C3
        rw [bsOf_data, HPS.out] at C3
        simp only at C3
        rw [HNG.out] at C3
        clear hb2 C2
        unfold strV
        go_wp2_with fail
        refine C3.out.mono ?_
        rintro e w3 ⟨A3, cap3, rfl, _, hf3, hb3⟩
        have HB3 := Lib.hid (HB2.out.trans (hb3.mono HB2.out.size))
        have HF3 := Lib.hid hf3
        have HF2 := Lib.hid (HF2.out.below hb3)
        clear hf3 hb3 C3
        go_wp2_with fail
        refine (CK.out _ (((bcell HB3.out).1 _ _ h0).trans HM.out)).mono ?_
        rintro e w4 ⟨rfl, hb4⟩
        have HB4 := Lib.hid (HB3.out.trans (hb4.mono HB3.out.size))
        have HF2 := Lib.hid (HF2.out.below hb4)
        have C4 := Lib.hid ((of_any (cap := cap3) (HF3.out.below hb4) (by rw [HNG.out]; omega)).mono fun e w' h => RowPost.at h hS.out.max)
        unfold RowAt at C4
        rw [HNG.out] at C4
        clear hb4
        go_wp2_with fail
        refine C4.out.mono ?_
        rintro e w5 ⟨A5, cap5, rfl, _, hf5, hb5⟩
        have HB5 := Lib.hid (HB4.out.trans (hb5.mono HB4.out.size))
        have HF5 := Lib.hid hf5
        have C5 := Lib.hid ((of_any (cap := cap1) (HF2.out.below hb5) (by rw [HNG.out]; omega)).mono fun e w' h => RowPost.at h hS.out.max)
        unfold RowAt at C5
        rw [HNG.out] at C5
        clear hf5 hb5 C4
        go_wp2_with fail
        refine C5.out.mono ?_
        rintro e w6 ⟨A6, cap6, rfl, _, hf6, hb6⟩
        have HB6 := Lib.hid (HB5.out.trans (hb6.mono HB5.out.size))
        have C6 := Lib.hid (same_any (ca := cap5) (cb := cap6) (HF5.out.below hb6) hf6 (by rw [HNG.out]; omega) (by rw [HNG.out]; omega))
        rw [HNG.out, decide_eq_true (rfl : G = G)] at C6
        clear hf6 hb6 C5
        go_wp2_with fail
        refine C6.out.mono ?_
        rintro e w7 ⟨rfl, hb7⟩
        have HB7 := Lib.hid (HB6.out.trans (hb7.mono HB6.out.size))
        clear hb7
        go_wp2
        go_ret
        exact ⟨rfl, HB7.out⟩

set_option maxRecDepth 100000 in
theorem fieldCanonical_lifted (os : Os) (started : os.Started) (H : Type) (enc : TypeId × Value → H) :
    ReturnsInHanded {} Try.checked os 8 .any (Rows.fieldCanonicalSpec.pre6 enc Try.prog Try.f8 Rows.fieldCanonicalRow.domain false) (Rows.fieldCanonicalSpec.post enc Try.prog Try.f8 false true false false) := by
  refine returnsInHanded_of_change_shaped (C := Try.checked) Try.own started (by kernel_rfl) Try.func8
    (ChangeSpec.witness6 (enc := enc) (C := Try.checked) false ⟨#[], #[.string ⟨#[]⟩], []⟩ 8 (by kernel_rfl) (by kernel_rfl) (by kernel_rfl) (by kernel_rfl)) ?_
  intro W base args ds gs before hval0 hW hcnd0 hsz0 hsh _
  have hval : ∀ (j : Nat) t v, Try.f8.params[j]? = some t → args[j]? = some v → Value.okWide Try.prog W .any base t v := hval0
  have hW' := hW
  have hltb : ∀ x ∈ before, x.block < W.heap.size := fun x hx => hW.lt x hx
  have hsz : (DataW.weightsEach Try.prog (Try.f8.params.toList ++ []) (ds ++ gs)).all (· ≤ reachBytes) = true := hsz0
  obtain ⟨p, q, hA0, hV, rfl, hfz, hnd⟩ := hW
  have hA : DataW.TrodAll enc Try.prog W 0 (fun _ => true) true Try.f8.params.toList args.toList ds p := hA0
  rw [Try.params8] at hA hval hsz
  obtain ⟨v0, d0, rfl, rfl, h0⟩ := trodAll_one hA
  obtain ⟨rfl, rfl⟩ := trodVars_none hV
  obtain ⟨s0, rfl, _, _, ws0⟩ := Go.ChangeMaps.open_string Try.underlying9 (hval 0 9 v0 rfl rfl) h0
  obtain ⟨m, hm⟩ := maxLen_cell hsh
  clear hA0 hval0 hsz0
  simp only [List.append_nil] at hW' hltb
  refine (canonical_any s0 W m hm ws0).mono fun e W' ⟨he, hb⟩ => ?_
  subst he
  refine ⟨_, rfl, post_of_below (pa := p) (pv := []) hW' (fun _ _ _ => trodAll_mk1 (shut_bool Try.underlying4 true)) (fun sp hsp => ?_) (fun _ _ => rfl) (by simp) hb (ok_one (by kernel_rfl) rfl (okWide_bool_mk Try.underlying4 _))⟩
  refine trodAll_mk1 ?_
  · exact WideElems.Trod_stays Try.laidOut (by kernel_rfl) (of_decide_eq_true (by kernel_rfl)) h0 (fun x hx => hb.same (hltb x (by simp [hx]))) (fun x hx => hsp x (by simp [hx]))

theorem fieldCanonical_holds : Rows.FieldCanonicalSaid :=
  OpenClaim.holds_of_wide 8 Try.f8 rfl rfl rfl rfl rfl rfl rfl ⟨rfl, rfl, rfl, rfl, rfl⟩ rfl rfl rfl rfl rfl (by kernel_rfl) Try.func8 (by kernel_rfl)
    (of_decide_eq_true (by kernel_rfl)) (by unfold Func.isWrapper; rw [if_neg (of_decide_eq_false (by kernel_rfl))]; exact ⟨rfl, rfl⟩)
    (fun os started H enc _ => fieldCanonical_lifted os started H enc)
end Go.Proofs.Ytknamddpflkifaa
