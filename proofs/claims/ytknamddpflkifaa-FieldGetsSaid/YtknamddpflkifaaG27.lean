/- FieldGets holds: for every list of fields, name and list of names the law returns true, and all read as before.
   Conditions: none. -/
import Derived.Test.YtknamddpflkifaaG26
namespace Go.Proofs.Ytknamddpflkifaa
open Go.ChangeShapes Go.WideShapes Go.ChangeAt Go.RowKit Go.Lib

theorem own_cap {B n cap : Nat} {A : Option Addr} {E : TypeId} {xs : List Value} {w : World} (h : w.ownsRow B E 2 (.slice A n cap) n xs) : n ≤ cap ∧ cap ≤ 9223372036854775807 := by
  have hm : maxLen ≤ 9223372036854775807 := by decide
  rcases h.2 with ⟨he, h0⟩ | ⟨g, cap', cur, he, _, _, h1, h2, _⟩
  · injection he with _ _ e3
    omega
  · injection he with _ _ e3
    omega

set_option maxRecDepth 10000 in
set_option maxHeartbeats 4000000 in
theorem gets_any {A B : Option Addr} {cap cb : Nat} (fs : List (List UInt8 × List UInt8)) (name : ByteArray) (ss : List (List UInt8)) (w : World) (m : Int) (hm : w.cell? ⟨0, 0, none⟩ = some (.int .i64 m)) (h : FldsAt A fs w) (hn : fs.length ≤ 9223372036854775807) (hs : StrsAt B ss w) (hc1 : ss.length ≤ cb) (hc2 : cb ≤ 9223372036854775807) (hsz : name.size ≤ 9223372036854775807) :
    Calls Try.prog 10 #[.slice A fs.length cap, .string name, .slice B ss.length cb] w fun e w' => e = .returned (.bool true) ∧ Below w.heap.size w w' := by
  have h0 := World.block_lt_of_cell? w _ hm
  have HM := Lib.hid hm
  have C1 := Lib.hid ((cut_any (cap := cap) h hn).mono fun e w' h => RowPost.at h (CutS.of fs).max)
  have hS := CutS.of fs
  obtain ⟨nf, hnf⟩ : ∃ nf, fs.length = nf := ⟨_, rfl⟩
  rw [hnf] at C1 ⊢
  obtain ⟨G, hG⟩ : ∃ G, cutF fs = G := ⟨_, rfl⟩
  rw [hG] at hS C1
  have HS := Lib.hid hS
  obtain ⟨ng, hng⟩ : ∃ ng, G.length = ng := ⟨_, rfl⟩
  have HNG := Lib.hid hng
  have hn70 : ng ≤ 70 := by rw [← hng]; exact hS.len
  unfold RowAt at C1
  rw [hng] at C1
  obtain ⟨ns, hns⟩ : ∃ ns, ss.length = ns := ⟨_, rfl⟩
  obtain ⟨q, hq, hq1, hq2⟩ : ∃ q : Nat, min (ns : Int) 20 = q ∧ q ≤ ns ∧ q ≤ 20 := ⟨min ns 20, by omega, Nat.min_le_left _ _, Nat.min_le_right _ _⟩
  obtain ⟨p, hp, hp1, hp2⟩ : ∃ p : Nat, min (name.size : Int) 100 = p ∧ p ≤ name.size ∧ p ≤ 100 := ⟨min name.size 100, by omega, Nat.min_le_left _ _, Nat.min_le_right _ _⟩
  have HSS := Lib.hid (hs.take q)
  obtain ⟨us, hus⟩ : ∃ us, ss.take q = us := ⟨_, rfl⟩
  have hul : us.length = q := by rw [← hus, List.length_take]; omega
  rw [hus] at HSS
  have HUL := Lib.hid hul
  rw [hns] at hc1 ⊢
  clear hnf hG h hn hm hS hng hs hns hus hul
  have i1 : (0 : Int) ≤ (q : Int) := Int.natCast_nonneg _
  have i2 : (q : Int) ≤ (cb : Int) := by omega
  have i3 : (0 : Int) ≤ (p : Int) := Int.natCast_nonneg _
  have i4 : (p : Int) ≤ (name.size : Int) := by omega
  go_enter Try.func10, Try.ntmps10
  go_wp2_with fail
  refine C1.out.mono ?_
  rintro e w1 ⟨A1, cap1, rfl, hown1, hf1, hb1⟩
  have HF1 := Lib.hid hf1
  have HB1 := Lib.hid hb1
  have hcap := own_cap hown1
  have HSS1 := Lib.hid (HSS.out.below hb1)
  have C3 := Lib.hid ((to_any (cap := cap1) hf1 (by rw [HNG.out]; omega)).mono fun e w' h => RowPost.at h (by rw [List.take_of_length_le (by rw [HNG.out]; exact hn70)]; exact HS.out.max))
  rw [List.take_of_length_le (by rw [HNG.out]; exact hn70)] at C3
  unfold RowAt at C3
  rw [HNG.out] at C3
  obtain ⟨hcap1, hcap2⟩ := hcap
  clear hown1 hf1 hb1 C1
  go_wp2_with fail
  have hSs : (name.extract 0 p).size ≤ 100 := by simp; omega
  generalize name.extract 0 p = S at hSs ⊢
  refine C3.out.mono ?_
  rintro e w2 ⟨A5, cap5, rfl, _, hf5, hb2⟩
  have HF5 := Lib.hid hf5
  have HF1 := Lib.hid (HF1.out.below hb2)
  have HSS2 := Lib.hid (HSS1.out.below hb2)
  have HB2 := Lib.hid (HB1.out.trans (hb2.mono HB1.out.size))
  have C4 := Lib.hid (get_any (cap := cap5) S hf5 HS.out.big (by rw [HNG.out]; omega) (by omega))
  rw [HNG.out] at C4
  obtain ⟨bd, hbd⟩ : ∃ bd, (getF S.data.toList G).1 = bd := ⟨_, rfl⟩
  obtain ⟨cn, hcn⟩ : ∃ cn, (getF S.data.toList G).2 = cn := ⟨_, rfl⟩
  rw [hbd, hcn] at C4
  have HBD := Lib.hid hbd
  have HCN := Lib.hid hcn
  clear hf5 hb2 C3 hbd hcn
  go_wp2_with fail
  refine C4.out.mono ?_
  rintro e w3 ⟨rfl, hb3⟩
  have HF5 := Lib.hid (HF5.out.below hb3)
  have HF1 := Lib.hid (HF1.out.below hb3)
  have HSS3 := Lib.hid (HSS2.out.below hb3)
  have HB3 := Lib.hid (HB2.out.trans (hb3.mono HB2.out.size))
  have C5 := Lib.hid (rget_any (cap := cap1) S HF1.out HS.out.big (by rw [HNG.out]; omega) (by omega))
  rw [HNG.out, HBD.out, HCN.out] at C5
  clear hb3 C4
  go_wp2_with fail
  refine C5.out.mono ?_
  rintro e w4 ⟨rfl, hb4⟩
  have HF5 := Lib.hid (HF5.out.below hb4)
  have HF1 := Lib.hid (HF1.out.below hb4)
  have HSS4 := Lib.hid (HSS3.out.below hb4)
  have HB4 := Lib.hid (HB3.out.trans (hb4.mono HB3.out.size))
  have CK := Lib.hid (known_any w4 m (((bcell HB4.out).1 _ _ h0).trans HM.out))
  clear hb4 C5
  unfold strV
  go_wp2_with fail
  refine CK.out.mono ?_
  rintro e w5 ⟨rfl, hb5⟩
  have HF5 := Lib.hid (HF5.out.below hb5)
  have HF1 := Lib.hid (HF1.out.below hb5)
  have HSS5 := Lib.hid (HSS4.out.below hb5)
  have HB5 := Lib.hid (HB4.out.trans (hb5.mono HB4.out.size))
  have C6 := Lib.hid (names_any' (cap := cap5) HF5.out HS.out.big (by rw [HNG.out]; omega))
  obtain ⟨N, hN⟩ : ∃ N, namesF G = N := ⟨_, rfl⟩
  obtain ⟨nn, hnn⟩ : ∃ nn, N.length = nn := ⟨_, rfl⟩
  have HNN := Lib.hid hnn
  have HNM := Lib.hid hN
  have hnn2 : nn ≤ 70 := by
    rw [← hnn, ← hN]
    have := (namesF_small G).1
    have h3 := HNG.out
    omega
  unfold StrPost at C6
  rw [hN, hnn, HNG.out] at C6
  clear hb5 CK hN hnn
  go_wp2_with fail
  refine C6.out.mono ?_
  rintro e w6 ⟨A6, cap6, rfl, hs6, hb6⟩
  have HS6 := Lib.hid hs6
  have HF5 := Lib.hid (HF5.out.below hb6)
  have HF1 := Lib.hid (HF1.out.below hb6)
  have HSS6 := Lib.hid (HSS5.out.below hb6)
  have HB6 := Lib.hid (HB5.out.trans (hb6.mono HB5.out.size))
  have C7 := Lib.hid (rnames_any (cap := cap1) HF1.out HS.out.big (by rw [HNG.out]; omega) (by rw [HNG.out]; exact hcap1) hcap2)
  unfold StrPost at C7
  rw [HNM.out, HNN.out, HNG.out] at C7
  clear hs6 hb6 C6
  go_wp2_with fail
  refine C7.out.mono ?_
  rintro e w7 ⟨A7, cap7, rfl, hs7, hb7⟩
  have HF5 := Lib.hid (HF5.out.below hb7)
  have HF1 := Lib.hid (HF1.out.below hb7)
  have HSS7 := Lib.hid (HSS6.out.below hb7)
  have HB7 := Lib.hid (HB6.out.trans (hb7.mono HB6.out.size))
  have C8 := Lib.hid (sames_any (ca := cap6) (cb := cap7) (HS6.out.below hb7) hs7 (by rw [HNN.out]; omega))
  rw [HNN.out] at C8
  clear hs7 hb7 C7
  go_wp2_with fail
  refine C8.out.mono ?_
  rintro e w8 ⟨rfl, hb8⟩
  have HF5 := Lib.hid (HF5.out.below hb8)
  have HF1 := Lib.hid (HF1.out.below hb8)
  have HSS8 := Lib.hid (HSS7.out.below hb8)
  have HB8 := Lib.hid (HB7.out.trans (hb8.mono HB7.out.size))
  obtain ⟨U, hU⟩ : ∃ U, unknownF us G = U := ⟨_, rfl⟩
  obtain ⟨nu, hnu⟩ : ∃ nu, U.length = nu := ⟨_, rfl⟩
  have HNU := Lib.hid hnu
  have HU := Lib.hid hU
  have hnu2 : nu ≤ 70 := by
    rw [← hnu, ← hU]
    have := List.length_filter_le (fun f : List UInt8 × List UInt8 => !listedB us f) G
    unfold unknownF
    have h3 := HNG.out
    omega
  have HUM : Hid (∀ f ∈ U, f.1.length ≤ 9223372036854775807 ∧ f.2.length ≤ 9223372036854775807) := Lib.hid (by
    rw [← hU]
    intro f hf
    have := filter_big HS.out.small f hf
    omega)
  have C9 := Lib.hid ((unknown_any (cap := cap5) (cb := cb) HF5.out HS.out.big (by rw [HNG.out]; omega) HSS8.out (by rw [HUL.out]; omega)).mono fun e w' h => RowPost.at h (by rw [HU.out]; exact HUM.out))
  rw [HU.out] at C9
  unfold RowAt at C9
  rw [HNU.out, HNG.out, HUL.out] at C9
  clear hb8 C8 hU hnu
  go_wp2_with fail
  refine C9.out.mono ?_
  rintro e w9 ⟨A9, cap9, rfl, _, hf9, hb9⟩
  have HF9 := Lib.hid hf9
  have HF1 := Lib.hid (HF1.out.below hb9)
  have HSS9 := Lib.hid (HSS8.out.below hb9)
  have HB9 := Lib.hid (HB8.out.trans (hb9.mono HB8.out.size))
  have C10 := Lib.hid ((of_any (cap := cap9) hf9 (by rw [HNU.out]; omega)).mono fun e w' h => RowPost.at h HUM.out)
  unfold RowAt at C10
  rw [HNU.out] at C10
  clear hf9 hb9 C9
  go_wp2_with fail
  refine C10.out.mono ?_
  rintro e w10 ⟨A10, cap10, rfl, _, hf10, hb10⟩
  have HF10 := Lib.hid hf10
  have HF1 := Lib.hid (HF1.out.below hb10)
  have HSS10 := Lib.hid (HSS9.out.below hb10)
  have HB10 := Lib.hid (HB9.out.trans (hb10.mono HB9.out.size))
  have C11 := Lib.hid (runknown_any (cap := cap1) (cb := cb) HF1.out HS.out.big (by rw [HNG.out]; omega) HSS10.out (by rw [HUL.out]; omega))
  rw [HU.out, HNU.out, HNG.out, HUL.out] at C11
  clear hf10 hb10 C10
  go_wp2_with fail
  refine C11.out.mono ?_
  rintro e w11 ⟨A11, cap11, rfl, hf11, hb11⟩
  have HB11 := Lib.hid (HB10.out.trans (hb11.mono HB10.out.size))
  have C12 := Lib.hid (same_any (ca := cap10) (cb := cap11) (HF10.out.below hb11) hf11 (by rw [HNU.out]; omega) (by rw [HNU.out]; omega))
  rw [HNU.out, decide_eq_true (rfl : U = U)] at C12
  clear hf11 hb11 C11
  go_wp2_with fail
  refine C12.out.mono ?_
  rintro e w12 ⟨rfl, hb12⟩
  have HB12 := Lib.hid (HB11.out.trans (hb12.mono HB11.out.size))
  clear hb12
  go_wp2
  go_ret
  exact ⟨rfl, HB12.out⟩

set_option maxRecDepth 100000 in
theorem fieldGets_lifted (os : Os) (started : os.Started) (H : Type) (enc : TypeId × Value → H) :
    ReturnsInHanded {} Try.checked os 10 .any (Rows.fieldGetsSpec.pre6 enc Try.prog Try.f10 Rows.fieldGetsRow.domain false) (Rows.fieldGetsSpec.post enc Try.prog Try.f10 false true false false) := by
  refine returnsInHanded_of_change_shaped (C := Try.checked) Try.own started (by kernel_rfl) Try.func10
    (ChangeSpec.witness6 (enc := enc) (C := Try.checked) false ⟨#[], #[.slice none 0 0, .string ⟨#[]⟩, .slice none 0 0], []⟩ 8 (by kernel_rfl) (by kernel_rfl) (by kernel_rfl) (by kernel_rfl)) ?_
  intro W base args ds gs before hval0 hW hcnd0 hsz0 hsh _
  have hval : ∀ (j : Nat) t v, Try.f10.params[j]? = some t → args[j]? = some v → Value.okWide Try.prog W .any base t v := hval0
  have hW' := hW
  have hltb : ∀ x ∈ before, x.block < W.heap.size := fun x hx => hW.lt x hx
  have hsz : (DataW.weightsEach Try.prog (Try.f10.params.toList ++ []) (ds ++ gs)).all (· ≤ reachBytes) = true := hsz0
  obtain ⟨p, q, hA0, hV, rfl, hfz, hnd⟩ := hW
  have hA : DataW.TrodAll enc Try.prog W 0 (fun _ => true) true Try.f10.params.toList args.toList ds p := hA0
  rw [Try.params10] at hA hval hsz
  obtain ⟨v0, v1, v2, d0, d1, d2, p0, p1, p2, rfl, rfl, rfl, h0, h1, h2⟩ := trodAll_three hA
  obtain ⟨rfl, rfl⟩ := trodVars_none hV
  obtain ⟨A0, fs0, cap0, rfl, y0, z0⟩ := flds_arg (hval 0 26 v0 rfl rfl) h0 (fun n hn => by have := List.all_eq_true.1 hsz n (DataW.weights_mem_each (j := 0) rfl rfl n hn); simpa using this)
  obtain ⟨s1, rfl, _, _, ws1⟩ := Go.ChangeMaps.open_string Try.underlying9 (hval 1 9 v1 rfl rfl) h1
  obtain ⟨A2, ss2, cap2, rfl, y2, x2, z2⟩ := strs_arg (hval 2 36 v2 rfl rfl) h2 (fun n hn => by have := List.all_eq_true.1 hsz n (DataW.weights_mem_each (j := 2) rfl rfl n hn); simpa using this)
  obtain ⟨m, hm⟩ := maxLen_cell hsh
  clear hA0 hval0 hsz0
  simp only [List.append_nil] at hW' hltb
  refine (gets_any fs0 s1 ss2 W m hm z0 y0 z2 y2 x2 ws1).mono fun e W' ⟨he, hb⟩ => ?_
  subst he
  refine ⟨_, rfl, post_of_below (pa := p0 ++ (p1 ++ (p2))) (pv := []) hW' (fun _ _ _ => trodAll_mk1 (shut_bool Try.underlying4 true)) (fun sp hsp => ?_) (fun _ _ => rfl) (by simp) hb (ok_one (by kernel_rfl) rfl (okWide_bool_mk Try.underlying4 _))⟩
  refine trodAll_mk3 ?_ ?_ ?_
  · exact WideElems.Trod_stays Try.laidOut (by kernel_rfl) (of_decide_eq_true (by kernel_rfl)) h0 (fun x hx => hb.same (hltb x (by simp [hx]))) (fun x hx => hsp x (by simp [hx]))
  · exact WideElems.Trod_stays Try.laidOut (by kernel_rfl) (of_decide_eq_true (by kernel_rfl)) h1 (fun x hx => hb.same (hltb x (by simp [hx]))) (fun x hx => hsp x (by simp [hx]))
  · exact WideElems.Trod_stays Try.laidOut (by kernel_rfl) (of_decide_eq_true (by kernel_rfl)) h2 (fun x hx => hb.same (hltb x (by simp [hx]))) (fun x hx => hsp x (by simp [hx]))

theorem fieldGets_holds : Rows.FieldGetsSaid :=
  OpenClaim.holds_of_wide 10 Try.f10 rfl rfl rfl rfl rfl rfl rfl ⟨rfl, rfl, rfl, rfl, rfl⟩ rfl rfl rfl rfl rfl (by kernel_rfl) Try.func10 (by kernel_rfl)
    (of_decide_eq_true (by kernel_rfl)) (by unfold Func.isWrapper; rw [if_neg (of_decide_eq_false (by kernel_rfl))]; exact ⟨rfl, rfl⟩)
    (fun os started H enc _ => fieldGets_lifted os started H enc)
end Go.Proofs.Ytknamddpflkifaa
