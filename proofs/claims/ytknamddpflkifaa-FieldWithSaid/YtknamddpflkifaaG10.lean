/- FieldPrints holds: for every list of fields the law returns true, and the fields read as before.
   Conditions: none. -/
import Derived.Test.YtknamddpflkifaaG7
import Derived.Test.YtknamddpflkifaaG9
namespace Go.Proofs.Ytknamddpflkifaa
open Go.ChangeShapes Go.WideShapes Go.ChangeAt Go.RowKit Go.Lib

theorem cutF_small (fs : List (List UInt8 × List UInt8)) : ∀ f ∈ cutF fs, f.1.length ≤ 60 ∧ f.2.length ≤ 9000 := by
  intro f hf
  unfold cutF at hf
  obtain ⟨g, _, rfl⟩ := List.mem_map.1 hf
  unfold cut1
  simp only [List.length_take]
  omega
/-- What is known of fields that were cut. -/
structure CutS (G : List (List UInt8 × List UInt8)) : Prop where
  len : G.length ≤ 70
  small : ∀ f ∈ G, f.1.length ≤ 60 ∧ f.2.length ≤ 9000
theorem CutS.of (fs : List (List UInt8 × List UInt8)) : CutS (cutF fs) := ⟨by rw [cutF_len]; omega, cutF_small fs⟩
theorem CutS.big {G : List (List UInt8 × List UInt8)} (h : CutS G) : ∀ f ∈ G, f.1.length ≤ 1000000 ∧ f.2.length ≤ 1000000 := fun f hf => by have := h.small f hf; omega
theorem CutS.max {G : List (List UInt8 × List UInt8)} (h : CutS G) : ∀ f ∈ G, f.1.length ≤ 9223372036854775807 ∧ f.2.length ≤ 9223372036854775807 := fun f hf => by have := h.small f hf; omega
/-- A row handed back, as a slice that reads as the fields. -/
def RowAt (E : TypeId) (G : List (List UInt8 × List UInt8)) (w : World) (e : Ending) (w' : World) : Prop :=
  ∃ A cap, e = .returned (.slice A G.length cap) ∧ w'.ownsRow w.heap.size E 2 (.slice A G.length cap) G.length (cellsF G) ∧ FldsAt A G w' ∧ Below w.heap.size w w'
theorem RowPost.at {E : TypeId} {G : List (List UInt8 × List UInt8)} {w w' : World} {e : Ending} (h : RowPost E G w e w') (hs : ∀ f ∈ G, f.1.length ≤ 9223372036854775807 ∧ f.2.length ≤ 9223372036854775807) : RowAt E G w e w' := by
  obtain ⟨v, rfl, hown, hb⟩ := h
  obtain ⟨A, cap, rfl⟩ := own_shape2 hown
  exact ⟨A, cap, rfl, hown, FldsAt.of_own hown hs, hb⟩

set_option maxRecDepth 10000 in
set_option maxHeartbeats 2000000 in
theorem prints_any {A : Option Addr} {cap : Nat} (fs : List (List UInt8 × List UInt8)) (w : World) (m : Int) (hm : w.cell? ⟨0, 0, none⟩ = some (.int .i64 m)) (h : FldsAt A fs w) (hn : fs.length ≤ 9223372036854775807) :
    Calls Try.prog 6 #[.slice A fs.length cap] w fun e w' => e = .returned (.bool true) ∧ Below w.heap.size w w' := by
  have h0 := World.block_lt_of_cell? w _ hm
  have HM := Lib.hid hm
  have C1 := Lib.hid ((cut_any (cap := cap) h hn).mono fun e w' h => RowPost.at h (CutS.of fs).max)
  have hS := CutS.of fs
  obtain ⟨nf, hnf⟩ : ∃ nf, fs.length = nf := ⟨_, rfl⟩
  rw [hnf] at C1 ⊢
  obtain ⟨G, hG⟩ : ∃ G, cutF fs = G := ⟨_, rfl⟩
  rw [hG] at hS C1
  clear hnf hG h hn hm
  obtain ⟨out, hout⟩ : ∃ out, (printS G).1 = out := ⟨_, rfl⟩
  obtain ⟨code, hcode⟩ : ∃ code, (printS G).2 = code := ⟨_, rfl⟩
  have hpp : Hid (code = 0 → parseS out = (G, (0, 0)) ∧ out.length ≤ 65536) := Lib.hid (by
    intro h
    rw [← hcode] at h
    refine ⟨by rw [← hout]; exact print_parse h, ?_⟩
    rw [← hout]
    unfold printS at h ⊢
    split at h
    · cases h
    · rename_i h64
      rw [if_neg h64]
      exact (printL_ok G [] h).2.2)
  have HOUT := Lib.hid hout
  have HCODE := Lib.hid hcode
  have HS := Lib.hid hS
  obtain ⟨ng, hng⟩ : ∃ ng, G.length = ng := ⟨_, rfl⟩
  have HNG := Lib.hid hng
  have hn70 : ng ≤ 70 := by rw [← hng]; exact hS.len
  clear hout hcode hS hng
  unfold RowAt at C1
  rw [HNG.out] at C1
  have hcc : code = 0 ∨ code ≠ 0 := by omega
  rcases hcc with rfl | hc
  case' inr =>
    have q2 : (code != 0) = true := by rw [bne, beq_eq_false_iff_ne.2 hc]; rfl
    clear hc
  all_goals
   go_enter Try.func6, Try.ntmps6
   go_wp2_with fail
   refine C1.out.mono ?_
   rintro e w1 ⟨A1, cap1, rfl, _, hf1, hb1⟩
   have HF1 := Lib.hid hf1
   have HB1 := Lib.hid hb1
   have C2 := Lib.hid ((to_any (cap := cap1) hf1 (by rw [HNG.out]; omega)).mono fun e w' h => RowPost.at h (by rw [List.take_of_length_le (by rw [HNG.out]; exact hn70)]; exact HS.out.max))
   rw [List.take_of_length_le (by rw [HNG.out]; exact hn70)] at C2
   unfold RowAt at C2
   rw [HNG.out] at C2
   clear hf1 hb1 C1
   go_wp2_with fail
   refine C2.out.mono ?_
   rintro e w2 ⟨A2, cap2, rfl, hown2, hf2, hb2⟩
   have HB2 := Lib.hid (HB1.out.trans (hb2.mono HB1.out.size))
   have C3 := Lib.hid (print_any (fs := G) (v := .slice A2 ng cap2) (by rw [HNG.out]; exact hown2) HS.out.big (by rw [HNG.out]; omega))
   have HF2 := Lib.hid (HF1.out.below hb2)
   clear hown2 hf2 hb2 C2
   unfold PrintPost at C3
   rw [HOUT.out, HCODE.out] at C3
   go_wp2_with fail
   refine C3.out.mono ?_
   rintro e w3 ⟨rfl, hb3⟩
   have HB3 := Lib.hid (HB2.out.trans (hb3.mono HB2.out.size))
   have HF3 := Lib.hid (HF2.out.below hb3)
   have C4 := Lib.hid (rprint_any (cap := cap1) HF3.out HS.out.big (by rw [HNG.out]; omega))
   unfold PrintPost at C4
   rw [HOUT.out, HCODE.out, HNG.out] at C4
   clear hb3 C3
   go_wp2_with fail
   refine C4.out.mono ?_
   rintro e w4 ⟨rfl, hb4⟩
   have HB4 := Lib.hid (HB3.out.trans (hb4.mono HB3.out.size))
   have HF4 := Lib.hid (HF3.out.below hb4)
   have CK := Lib.hid (fun W hm => known_any W m hm)
   clear hb4 C4
   unfold strV
   go_wp2_with fail
  · refine (CK.out _ (((bcell HB4.out).1 _ _ h0).trans HM.out)).mono ?_
    rintro e w5 ⟨rfl, hb5⟩
    have HB5 := Lib.hid (HB4.out.trans (hb5.mono HB4.out.size))
    clear hb5
    go_wp2
    go_ret
    exact ⟨rfl, HB5.out⟩
  · obtain ⟨hps, h65⟩ := hpp.out (by simp)
    have C5 := Lib.hid (parse_any (bsOf out) w4 m (by rw [bsOf_size]; omega) (((bcell HB4.out).1 _ _ h0).trans HM.out))
    unfold ParsePost at C5
    rw [bsOf_data, hps] at C5
    simp only at C5
    rw [HNG.out] at C5
    clear hps h65
    refine C5.out.mono ?_
    rintro e w5 ⟨v7, rfl, hown5, hb5⟩
    have HB5 := Lib.hid (HB4.out.trans (hb5.mono HB4.out.size))
    obtain ⟨A7, cap7, rfl⟩ := own_shape2 hown5
    have HF7 := Lib.hid (FldsAt.of_own (fs := G) (cap := cap7) (by rw [HNG.out]; exact hown5) HS.out.max)
    have HF5 := Lib.hid (HF4.out.below hb5)
    clear hown5 hb5 C5
    go_wp2_with fail
    refine (CK.out _ (((bcell HB5.out).1 _ _ h0).trans HM.out)).mono ?_
    rintro e w6 ⟨rfl, hb6⟩
    have HB6 := Lib.hid (HB5.out.trans (hb6.mono HB5.out.size))
    have HF6 := Lib.hid (HF5.out.below hb6)
    have C7 := Lib.hid ((of_any (cap := cap7) (HF7.out.below hb6) (by rw [HNG.out]; omega)).mono fun e w' h => RowPost.at h HS.out.max)
    unfold RowAt at C7
    rw [HNG.out] at C7
    clear hb6
    go_wp2_with fail
    refine C7.out.mono ?_
    rintro e w7 ⟨A8, cap8, rfl, hown8, hf8, hb7⟩
    have HB7 := Lib.hid (HB6.out.trans (hb7.mono HB6.out.size))
    have C8 := Lib.hid (same_any (ca := cap8) (cb := cap1) hf8 (HF6.out.below hb7) (by rw [HNG.out]; omega) (by rw [HNG.out]; omega))
    rw [HNG.out, decide_eq_true (rfl : G = G)] at C8
    clear hown8 hf8 hb7 C7
    go_wp2_with fail
    refine C8.out.mono ?_
    rintro e w8 ⟨rfl, hb8⟩
    have HB8 := Lib.hid (HB7.out.trans (hb8.mono HB7.out.size))
    clear hb8
    go_wp2
    go_ret
    exact ⟨rfl, HB8.out⟩

set_option maxRecDepth 100000 in
theorem fieldPrints_lifted (os : Os) (started : os.Started) (H : Type) (enc : TypeId × Value → H) :
    ReturnsInHanded {} Try.checked os 6 .any (Rows.fieldPrintsSpec.pre6 enc Try.prog Try.f6 Rows.fieldPrintsRow.domain false) (Rows.fieldPrintsSpec.post enc Try.prog Try.f6 false true false false) := by
  refine returnsInHanded_of_change_shaped (C := Try.checked) Try.own started (by kernel_rfl) Try.func6
    (ChangeSpec.witness6 (enc := enc) (C := Try.checked) false ⟨#[], #[.slice none 0 0], []⟩ 8 (by kernel_rfl) (by kernel_rfl) (by kernel_rfl) (by kernel_rfl)) ?_
  intro W base args ds gs before hval0 hW hcnd0 hsz0 hsh _
  have hval : ∀ (j : Nat) t v, Try.f6.params[j]? = some t → args[j]? = some v → Value.okWide Try.prog W .any base t v := hval0
  have hW' := hW
  have hltb : ∀ x ∈ before, x.block < W.heap.size := fun x hx => hW.lt x hx
  have hsz : (DataW.weightsEach Try.prog (Try.f6.params.toList ++ []) (ds ++ gs)).all (· ≤ reachBytes) = true := hsz0
  obtain ⟨p, q, hA0, hV, rfl, hfz, hnd⟩ := hW
  have hA : DataW.TrodAll enc Try.prog W 0 (fun _ => true) true Try.f6.params.toList args.toList ds p := hA0
  rw [Try.params6] at hA hval hsz
  obtain ⟨v0, d0, rfl, rfl, h0⟩ := trodAll_one hA
  obtain ⟨rfl, rfl⟩ := trodVars_none hV
  obtain ⟨A0, fs0, cap0, rfl, y0, z0⟩ := flds_arg (hval 0 26 v0 rfl rfl) h0 (fun n hn => by have := List.all_eq_true.1 hsz n (DataW.weights_mem_each (j := 0) rfl rfl n hn); simpa using this)
  obtain ⟨m, hm⟩ := maxLen_cell hsh
  clear hA0 hval0 hsz0
  simp only [List.append_nil] at hW' hltb
  refine (prints_any fs0 W m hm z0 y0).mono fun e W' ⟨he, hb⟩ => ?_
  subst he
  refine ⟨_, rfl, post_of_below (pa := p) (pv := []) hW' (fun _ _ _ => trodAll_mk1 (shut_bool Try.underlying4 true)) (fun sp hsp => ?_) (fun _ _ => rfl) (by simp) hb (ok_one (by kernel_rfl) rfl (okWide_bool_mk Try.underlying4 _))⟩
  refine trodAll_mk1 ?_
  · exact WideElems.Trod_stays Try.laidOut (by kernel_rfl) (of_decide_eq_true (by kernel_rfl)) h0 (fun x hx => hb.same (hltb x (by simp [hx]))) (fun x hx => hsp x (by simp [hx]))

theorem fieldPrints_holds : Rows.FieldPrintsSaid :=
  OpenClaim.holds_of_wide 6 Try.f6 rfl rfl rfl rfl rfl rfl rfl ⟨rfl, rfl, rfl, rfl, rfl⟩ rfl rfl rfl rfl rfl (by kernel_rfl) Try.func6 (by kernel_rfl)
    (of_decide_eq_true (by kernel_rfl)) (by unfold Func.isWrapper; rw [if_neg (of_decide_eq_false (by kernel_rfl))]; exact ⟨rfl, rfl⟩)
    (fun os started H enc _ => fieldPrints_lifted os started H enc)
end Go.Proofs.Ytknamddpflkifaa
