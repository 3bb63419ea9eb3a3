/- FieldParses holds: for every text the law returns true, and the text reads as before.
   Conditions: none. -/
import Derived.Test.YtknamddpflkifaaG15
import Derived.Test.YtknamddpflkifaaG10
namespace Go.Proofs.Ytknamddpflkifaa
open Go.ChangeShapes Go.WideShapes Go.ChangeAt Go.RowKit Go.Lib

/-- What the program's Parse hands back, as a slice that reads as the fields. -/
def ParseAt (E : TypeId) (G : List (List UInt8 × List UInt8)) (p c : Int) (w : World) (e : Ending) (w' : World) : Prop :=
  ∃ A cap, e = .returned (.tuple #[.slice A G.length cap, .int .i64 p, .int .i64 c]) ∧ w'.ownsRow w.heap.size E 2 (.slice A G.length cap) G.length (cellsF G) ∧ FldsAt A G w' ∧ Below w.heap.size w w'
theorem parse_max (l : List UInt8) : ∀ f ∈ (parseS l).1, f.1.length ≤ 9223372036854775807 ∧ f.2.length ≤ 9223372036854775807 := fun f hf => by have := (parse_small l).2 f hf; omega
theorem parse_at (S : ByteArray) (w : World) (m : Int) (hs : S.size ≤ 1000000) (hm : w.cell? ⟨0, 0, none⟩ = some (.int .i64 m)) :
    Calls Try.prog 23 #[.string S] w (ParseAt 28 (parseS S.data.toList).1 (parseS S.data.toList).2.1 (parseS S.data.toList).2.2 w) := by
  refine (parse_any S w m hs hm).mono ?_
  rintro e w' ⟨v, rfl, hown, hb⟩
  obtain ⟨A, cap, rfl⟩ := own_shape2 hown
  exact ⟨A, cap, rfl, hown, FldsAt.of_own hown (parse_max _), hb⟩
theorem rparse_at (S : ByteArray) (w : World) (hs : S.size ≤ 1000000) :
    Calls Try.prog 26 #[.string S] w (ParseAt 25 (parseS S.data.toList).1 (parseS S.data.toList).2.1 (parseS S.data.toList).2.2 w) := by
  refine (rparse_any S w hs).mono ?_
  rintro e w' ⟨v, rfl, hown, hb⟩
  obtain ⟨A, cap, rfl⟩ := own_shape2 hown
  exact ⟨A, cap, rfl, hown, FldsAt.of_own hown (parse_max _), hb⟩

set_option maxRecDepth 10000 in
set_option maxHeartbeats 2000000 in
theorem parses_any (s : ByteArray) (w : World) (m : Int) (hm : w.cell? ⟨0, 0, none⟩ = some (.int .i64 m)) (hs : s.size ≤ 9223372036854775807) :
    Calls Try.prog 7 #[.string s] w fun e w' => e = .returned (.bool true) ∧ Below w.heap.size w w' := by
  have h0 := World.block_lt_of_cell? w _ hm
  have HM := Lib.hid hm
  clear hm
  obtain ⟨q, hq, hq1, hq2⟩ : ∃ q : Nat, min (s.size : Int) 70000 = q ∧ q ≤ s.size ∧ q ≤ 70000 := ⟨min s.size 70000, by omega, Nat.min_le_left _ _, Nat.min_le_right _ _⟩
  go_enter Try.func7, Try.ntmps7
  go_wp2_with fail
  have hSs : (s.extract 0 q).size ≤ 70000 := by simp; omega
  generalize s.extract 0 q = S at hSs ⊢
  have C1 := Lib.hid (parse_at S w m (by omega) HM.out)
  have C2 := Lib.hid (fun W => rparse_at S W (by omega))
  obtain ⟨G, hG⟩ : ∃ G, (parseS S.data.toList).1 = G := ⟨_, rfl⟩
  obtain ⟨p, hp⟩ : ∃ p, (parseS S.data.toList).2.1 = p := ⟨_, rfl⟩
  obtain ⟨c, hc⟩ : ∃ c, (parseS S.data.toList).2.2 = c := ⟨_, rfl⟩
  have HS := parse_small S.data.toList
  rw [hG] at HS
  rw [hG, hp, hc] at C1 C2
  have hS : Hid (CutS G) := Lib.hid ⟨by have := HS.1; omega, HS.2⟩
  have hn70 : G.length ≤ 70 := by have := HS.1; omega
  obtain ⟨ng, hng⟩ : ∃ ng, G.length = ng := ⟨_, rfl⟩
  have HNG := Lib.hid hng
  rw [hng] at hn70
  unfold ParseAt at C1 C2
  rw [HNG.out] at C1 C2
  clear hG hp hc HS hng hq
  refine C1.out.mono ?_
  rintro e w1 ⟨A1, cap1, rfl, _, hf1, hb1⟩
  have HF1 := Lib.hid hf1
  have HB1 := Lib.hid hb1
  clear hf1 hb1 C1
  go_wp2_with fail
  refine (C2.out _).mono ?_
  rintro e w2 ⟨A2, cap2, rfl, _, hf2, hb2⟩
  have HF2 := Lib.hid hf2
  have HF1 := Lib.hid (HF1.out.below hb2)
  have HB2 := Lib.hid (HB1.out.trans (hb2.mono HB1.out.size))
  have CK := Lib.hid (known_any w2 m (((bcell HB2.out).1 _ _ h0).trans HM.out))
  clear hf2 hb2 C2
  go_wp2_with fail
  refine CK.out.mono ?_
  rintro e w3 ⟨rfl, hb3⟩
  have HF2 := Lib.hid (HF2.out.below hb3)
  have HB3 := Lib.hid (HB2.out.trans (hb3.mono HB2.out.size))
  have C3 := Lib.hid ((of_any (cap := cap1) (HF1.out.below hb3) (by rw [HNG.out]; omega)).mono fun e w' h => RowPost.at h hS.out.max)
  unfold RowAt at C3
  rw [HNG.out] at C3
  clear hb3 CK
  go_wp2_with fail
  refine C3.out.mono ?_
  rintro e w4 ⟨A4, cap4, rfl, _, hf4, hb4⟩
  have HB4 := Lib.hid (HB3.out.trans (hb4.mono HB3.out.size))
  have C4 := Lib.hid (same_any (ca := cap4) (cb := cap2) hf4 (HF2.out.below hb4) (by rw [HNG.out]; omega) (by rw [HNG.out]; omega))
  rw [HNG.out, decide_eq_true (rfl : G = G)] at C4
  clear hf4 hb4 C3
  go_wp2_with fail
  refine C4.out.mono ?_
  rintro e w5 ⟨rfl, hb5⟩
  have HB5 := Lib.hid (HB4.out.trans (hb5.mono HB4.out.size))
  clear hb5 C4
  go_wp2
  go_ret
  exact ⟨rfl, HB5.out⟩

set_option maxRecDepth 100000 in
theorem fieldParses_lifted (os : Os) (started : os.Started) (H : Type) (enc : TypeId × Value → H) :
    ReturnsInHanded {} Try.checked os 7 .any (Rows.fieldParsesSpec.pre6 enc Try.prog Try.f7 Rows.fieldParsesRow.domain false) (Rows.fieldParsesSpec.post enc Try.prog Try.f7 false true false false) := by
  refine returnsInHanded_of_change_shaped (C := Try.checked) Try.own started (by kernel_rfl) Try.func7
    (ChangeSpec.witness6 (enc := enc) (C := Try.checked) false ⟨#[], #[.string ⟨#[]⟩], []⟩ 8 (by kernel_rfl) (by kernel_rfl) (by kernel_rfl) (by kernel_rfl)) ?_
  intro W base args ds gs before hval0 hW hcnd0 hsz0 hsh _
  have hval : ∀ (j : Nat) t v, Try.f7.params[j]? = some t → args[j]? = some v → Value.okWide Try.prog W .any base t v := hval0
  have hW' := hW
  have hltb : ∀ x ∈ before, x.block < W.heap.size := fun x hx => hW.lt x hx
  have hsz : (DataW.weightsEach Try.prog (Try.f7.params.toList ++ []) (ds ++ gs)).all (· ≤ reachBytes) = true := hsz0
  obtain ⟨p, q, hA0, hV, rfl, hfz, hnd⟩ := hW
  have hA : DataW.TrodAll enc Try.prog W 0 (fun _ => true) true Try.f7.params.toList args.toList ds p := hA0
  rw [Try.params7] at hA hval hsz
  obtain ⟨v0, d0, rfl, rfl, h0⟩ := trodAll_one hA
  obtain ⟨rfl, rfl⟩ := trodVars_none hV
  obtain ⟨s0, rfl, _, _, ws0⟩ := Go.ChangeMaps.open_string Try.underlying9 (hval 0 9 v0 rfl rfl) h0
  obtain ⟨m, hm⟩ := maxLen_cell hsh
  clear hA0 hval0 hsz0
  simp only [List.append_nil] at hW' hltb
  refine (parses_any s0 W m hm ws0).mono fun e W' ⟨he, hb⟩ => ?_
  subst he
  refine ⟨_, rfl, post_of_below (pa := p) (pv := []) hW' (fun _ _ _ => trodAll_mk1 (shut_bool Try.underlying4 true)) (fun sp hsp => ?_) (fun _ _ => rfl) (by simp) hb (ok_one (by kernel_rfl) rfl (okWide_bool_mk Try.underlying4 _))⟩
  refine trodAll_mk1 ?_
  · exact WideElems.Trod_stays Try.laidOut (by kernel_rfl) (of_decide_eq_true (by kernel_rfl)) h0 (fun x hx => hb.same (hltb x (by simp [hx]))) (fun x hx => hsp x (by simp [hx]))

theorem fieldParses_holds : Rows.FieldParsesSaid :=
  OpenClaim.holds_of_wide 7 Try.f7 rfl rfl rfl rfl rfl rfl rfl ⟨rfl, rfl, rfl, rfl, rfl⟩ rfl rfl rfl rfl rfl (by kernel_rfl) Try.func7 (by kernel_rfl)
    (of_decide_eq_true (by kernel_rfl)) (by unfold Func.isWrapper; rw [if_neg (of_decide_eq_false (by kernel_rfl))]; exact ⟨rfl, rfl⟩)
    (fun os started H enc _ => fieldParses_lifted os started H enc)
end Go.Proofs.Ytknamddpflkifaa
