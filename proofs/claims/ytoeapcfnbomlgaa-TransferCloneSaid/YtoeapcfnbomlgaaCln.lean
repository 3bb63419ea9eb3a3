/- TransferClone holds: for every identity, size and two lists of commands the law returns true, and each argument reads as before.
   Conditions: none. -/
import Derived.Test.YtoeapcfnbomlgaaLift
import Derived.Test.YtoeapcfnbomlgaaTrF
namespace Go.Proofs.Ytoeapcfnbomlgaa
open Go.ChangeShapes Go.WideShapes Go.ChangeAt Go.RowKit Go.Lib

set_option maxRecDepth 100000 in
theorem transferClone_lifted (os : Os) (started : os.Started) (H : Type) (enc : TypeId × Value → H) :
    ReturnsInHanded {} Try.checked os 4 .any (Rows.transferCloneSpec.pre6 enc Try.prog Try.f4 Rows.transferCloneRow.domain false) (Rows.transferCloneSpec.post enc Try.prog Try.f4 false true false false) := by
  refine returnsInHanded_of_change_sized (C := Try.checked) Try.own started (by kernel_rfl) Try.func4
    (ChangeSpec.witness6 (enc := enc) (C := Try.checked) false ⟨#[], #[.agg (Array.replicate 32 (.int .u8 0)), .int .i64 0, .slice none 0 0, .slice none 0 0], []⟩ 8 (by kernel_rfl) (by kernel_rfl) (by kernel_rfl) (by kernel_rfl)) ?_
  intro W base args ds gs before hval0 hW hcnd hsz0 _
  have hval : ∀ (j : Nat) t v, Try.f4.params[j]? = some t → args[j]? = some v → Value.okWide Try.prog W .any base t v := hval0
  have hW' := hW
  have hltb : ∀ x ∈ before, x.block < W.heap.size := fun x hx => hW.lt x hx
  have hsz : (DataW.weightsEach Try.prog (Try.f4.params.toList ++ []) (ds ++ gs)).all (· ≤ reachBytes) = true := hsz0
  obtain ⟨p, q, hA0, hV, rfl, hfz, hnd⟩ := hW
  have hA : DataW.TrodAll enc Try.prog W 0 (fun _ => true) true Try.f4.params.toList args.toList ds p := hA0
  rw [Try.params4] at hA hval hsz
  obtain ⟨v0, v1, v2, v3, d0, d1, d2, d3, p0, p1, p2, p3, rfl, rfl, rfl, h0, h1, h2, h3⟩ := trodAll_four hA
  obtain ⟨rfl, rfl⟩ := trodVars_none hV
  obtain ⟨id, rfl⟩ := id_arg (hval 0 23 v0 rfl rfl) h0
  obtain ⟨size, rfl, rfl, rfl, hw1⟩ := open_int Try.underlying3 (hval 1 3 v1 rfl rfl) h1
  obtain ⟨A1, len1, cap1, E1, rfl, hlen1, hC1⟩ := cmds_arg (hval 2 24 v2 rfl rfl) h2 (fun n hn => by
    have := List.all_eq_true.1 hsz n (DataW.weights_mem_each (j := 2) rfl rfl n hn)
    simpa using this)
  obtain ⟨A2, len2, cap2, E2, rfl, hlen2, hC2⟩ := cmds_arg (hval 3 24 v3 rfl rfl) h3 (fun n hn => by
    have := List.all_eq_true.1 hsz n (DataW.weights_mem_each (j := 3) rfl rfl n hn)
    simpa using this)
  have key : Calls Try.prog 4 #[.agg (byteCells id.1).toArray, .int .i64 size, .slice A1 len1 cap1, .slice A2 len2 cap2] W fun e w' => e = .returned (.bool true) ∧ Kept (fun _ => False) W w' := by
    by_cases hl1 : len1 ≤ 30
    · by_cases hl2 : len2 ≤ 30
      · by_cases hs0 : size < 0
        · exact clone_known W (Or.inr (Or.inr (Or.inl ⟨hl1, hl2, hs0⟩)))
        · by_cases hs1 : 65536 < size
          · exact clone_known W (Or.inr (Or.inr (Or.inr ⟨hl1, hl2, by omega, hs1⟩)))
          · exact clone_run W hC1 hC2 hl1 hl2 (by omega) (by omega)
      · exact clone_known W (Or.inr (Or.inl ⟨hl1, by omega⟩))
    · exact clone_known W (Or.inl (by omega))
  clear hA0 hval0 hsz0
  simp only [List.append_nil] at hW' hltb
  refine key.mono fun e W' ⟨he, hk⟩ => ?_
  subst he
  have hb : Below W.heap.size W W' := hk.below (fun _ _ _ f => f) (Nat.le_refl _)
  refine ⟨_, rfl, post_of_below (pa := p0 ++ ([] ++ (p2 ++ p3))) (pv := []) hW' (fun _ _ _ => trodAll_mk1 (shut_bool Try.underlying4 true)) (fun sp hsp => ?_) (fun _ _ => rfl) (by simp) hb (ok_one (by kernel_rfl) rfl (okWide_bool_mk Try.underlying4 _))⟩
  refine trodAll_mk4 ?_ ?_ ?_ ?_
  · exact WideElems.Trod_stays Try.laidOut (by kernel_rfl) (of_decide_eq_true (by kernel_rfl)) h0 (fun x hx => hb.same (hltb x (by simp [hx]))) (fun x hx => hsp x (by simp [hx]))
  · exact shut_int Try.underlying3 hw1
  · exact WideElems.Trod_stays Try.laidOut (by kernel_rfl) (of_decide_eq_true (by kernel_rfl)) h2 (fun x hx => hb.same (hltb x (by simp [hx]))) (fun x hx => hsp x (by simp [hx]))
  · exact WideElems.Trod_stays Try.laidOut (by kernel_rfl) (of_decide_eq_true (by kernel_rfl)) h3 (fun x hx => hb.same (hltb x (by simp [hx]))) (fun x hx => hsp x (by simp [hx]))

theorem transferClone_holds : Rows.TransferCloneSaid :=
  OpenClaim.holds_of_wide 4 Try.f4 rfl rfl rfl rfl rfl rfl rfl ⟨rfl, rfl, rfl, rfl, rfl⟩ rfl rfl rfl rfl rfl (by kernel_rfl) Try.func4 (by kernel_rfl)
    (of_decide_eq_true (by kernel_rfl)) (by unfold Func.isWrapper; rw [if_neg (of_decide_eq_false (by kernel_rfl))]; exact ⟨rfl, rfl⟩)
    (fun os started H enc _ => transferClone_lifted os started H enc)

end Go.Proofs.Ytoeapcfnbomlgaa
