/- FieldChecks holds: for every field the law returns true, and the field reads as before.
   Conditions: none. -/
import Derived.Test.YtknamddpflkifaaG4
namespace Go.Proofs.Ytknamddpflkifaa
open Go.ChangeShapes Go.WideShapes Go.ChangeAt Go.RowKit Go.Lib

theorem FldsAt.one {g : Nat} {n b : List UInt8} {T : TypeId} {fr : Nat × Nat} {W : World} (hb : W.heap[g]? = some (.cells #[strV n, strV b] T fr)) (h1 : n.length ≤ 9223372036854775807) (h2 : b.length ≤ 9223372036854775807) : FldsAt (some ⟨g, 0, none⟩) [(n, b)] W := by
  refine ⟨fun _ => ⟨_, rfl, lt_of_block hb⟩, fun k ad hk ha => ?_, fun f hf => ?_⟩
  · injection ha with ha
    subst ha
    have : k = 0 := by simp at hk; exact hk
    subst this
    exact ⟨by show W.cell? ⟨g, 0, none⟩ = _; rw [Lib.cell_of_heap hb]; rfl, by show W.cell? ⟨g, 0 + 1, none⟩ = _; rw [Lib.cell_of_heap hb]; rfl⟩
  · rw [List.mem_singleton] at hf
    subst hf
    exact ⟨h1, h2⟩

theorem heap_new_at {w : World} {k : Nat} (hk : w.heap.size = k) (o : Obj) : (w.alloc o).heap[k]? = some o := by subst hk; exact heap_alloc_new w o

theorem heap_old_at {w : World} {k : Nat} {x : Obj} (hk : w.heap[k]? = some x) (o : Obj) : (w.alloc o).heap[k]? = some x := by
  have hl := lt_of_block hk
  show (w.heap.push o)[k]? = some x
  rw [Array.getElem?_push, if_neg (by omega)]
  exact hk
theorem two_cells {w : World} {p : Nat} {x y : Value} {T : TypeId} (h : w.heap[p]? = some (.cells #[x, y] T (0, 0))) : w.cell? ⟨p, 0, none⟩ = some x ∧ w.cell? ⟨p, 1, none⟩ = some y ∧ w.frozen? ⟨p, 0, none⟩ = false ∧ w.frozen? ⟨p, 1, none⟩ = false :=
  ⟨by rw [Lib.cell_of_heap h]; rfl, by rw [Lib.cell_of_heap h]; rfl, Lib.frozen_of_heap h _, Lib.frozen_of_heap h _⟩
/-- The one field that cut hands back. -/
def CutOne (n b : List UInt8) (W : World) (e : Ending) (w' : World) : Prop :=
  ∃ gb cap, e = .returned (.slice (some ⟨gb, 0, none⟩) 1 cap) ∧ gb < w'.heap.size ∧ W.heap.size ≤ gb ∧ w'.cell? ⟨gb, 0, none⟩ = some (strV (n.take 60)) ∧ w'.cell? ⟨gb, 1, none⟩ = some (strV (b.take 9000)) ∧ Below W.heap.size W w'
theorem cut_one {g cap : Nat} {n b : List UInt8} {T : TypeId} {fr : Nat × Nat} {W : World} (hb : W.heap[g]? = some (.cells #[strV n, strV b] T fr)) (h1 : n.length ≤ 9223372036854775807) (h2 : b.length ≤ 9223372036854775807) :
    Calls Try.prog 14 #[.slice (some ⟨g, 0, none⟩) 1 cap] W (CutOne n b W) := by
  refine (cut_any (FldsAt.one hb h1 h2) (by simp)).mono ?_
  rintro e w' ⟨v, rfl, hown, hbl⟩
  have hc : cutF [(n, b)] = [(n.take 60, b.take 9000)] := rfl
  rw [hc] at hown
  obtain ⟨gb, cap', rfl, hg, hcell⟩ := own_fields hown (by simp)
  obtain ⟨q0, q1⟩ := hcell 0 (by simp)
  exact ⟨gb, cap', rfl, hg, (own_lt hown gb rfl).1, q0, q1, hbl⟩

set_option maxRecDepth 10000 in
set_option maxHeartbeats 2000000 in
theorem checks_any (n b : List UInt8) (w : World) (m : Int) (hm : w.cell? ⟨0, 0, none⟩ = some (.int .i64 m)) (h1 : n.length ≤ 9223372036854775807) (h2 : b.length ≤ 9223372036854775807) :
    Calls Try.prog 4 #[.agg #[strV n, strV b]] w fun e w' => e = .returned (.bool true) ∧ Below w.heap.size w w' := by
  have h0 := World.block_lt_of_cell? w _ hm
  have CC := fun (cap : Nat) (W : World) (hb : W.heap[w.heap.size + 1]? = some (.cells #[strV n, strV b] 25 (0, 0))) => cut_one (cap := cap) hb h1 h2
  have CCH := Lib.hid CC
  obtain ⟨n', hn'⟩ : ∃ n', n.take 60 = n' := ⟨_, rfl⟩
  obtain ⟨b', hb'⟩ : ∃ b', b.take 9000 = b' := ⟨_, rfl⟩
  have l1 : (bsOf n').size ≤ 1000000 := by rw [bsOf_size, ← hn', List.length_take]; omega
  have l2 : (bsOf b').size ≤ 1000000 := by rw [bsOf_size, ← hb', List.length_take]; omega
  have FO := fun W => fold_any (bsOf n') (bsOf b') W l1 l2
  have CH := fun W => check_any (bsOf n') (bsOf b') W l1 l2
  have RC := fun W => rcheck_any (bsOf n') (bsOf b') W l1 l2
  have RF := fun W => rfold_any (bsOf n') (bsOf b') W l1 l2
  rw [bsOf_data, bsOf_data] at FO CH RC RF
  clear CC l1 l2
  unfold CutOne at CCH
  rw [hn', hb'] at CCH
  have HM := Lib.hid hm
  clear hm h1 h2 hn' hb'
  unfold strV at CCH ⊢
  have HK := Lib.hid (fun W hm => known_any W m hm)
  obtain ⟨c, hc⟩ : ∃ c, checkI n' b' = c := ⟨_, rfl⟩
  rw [hc] at FO CH RC
  have hfr : (c ≠ 0 ∧ foldR n' b' = []) ∨ (c = 0 ∧ foldR n' b' = foldL n' b') := by
    unfold foldR
    rw [hc]
    by_cases h : c = 0
    · exact .inr ⟨h, by rw [if_pos h]⟩
    · exact .inl ⟨h, by rw [if_neg h]⟩
  clear hc
  rcases hfr with ⟨hc, he⟩ | ⟨rfl, he⟩
  all_goals rw [he] at FO
  all_goals clear he
  case' inl =>
    have q1 : (c == 0) = false := beq_eq_false_iff_ne.2 hc
    have q2 : (c != 0) = true := by rw [bne, q1]; rfl
    have he : strV [] = .string ⟨#[]⟩ := rfl
    rw [he] at FO
    clear hc he
  case' inr =>
    unfold strV at FO RF
  all_goals
   go_enter Try.func4, Try.ntmps4
   go_wp2_with fail
   refine (CCH.out _ _ (heap_new_at (by simp) _)).mono ?_
   rintro e w1 ⟨gb, cap, rfl, hgb, hgb0, k0, k1, hb1⟩
   have hblk : w1.heap[w.heap.size]? = some (.cells #[.string (bsOf n), .string (bsOf b)] 25 (0, 0)) := by
     rw [hb1.block w.heap.size (by simp; omega)]
     exact heap_old_at (heap_new_at rfl _) _
   obtain ⟨t0, t1, t2, t3⟩ := two_cells hblk
   have z1 : w.heap.size + 2 ≤ w1.heap.size := by have := hb1.size; simp at this; omega
   have z2 : w.heap.size < gb := by simp at hgb0; omega
   have HB1 := Lib.hid hb1
   have HBLK := Lib.hid hblk
   clear hb1 hblk hgb0
   go_wp2_with fail
   refine (FO _).mono ?_
   rintro e w2 ⟨rfl, hb2⟩
   have hblk2 : w2.heap[w.heap.size]? = some (.cells #[.string (bsOf n'), .string (bsOf b')] 25 (0, 0)) := by
     rw [hb2.block w.heap.size (by simp; omega)]
     exact heap_old_at (heap_set (heap_set HBLK.out _) _) _
   have hblk3 : w2.heap[w1.heap.size]? = some (.cells #[.string (bsOf n'), .string (bsOf b')] 28 (0, 0)) := by
     rw [hb2.block w1.heap.size (by simp)]
     exact heap_new_at (by simp) _
   obtain ⟨t0, t1, _, _⟩ := two_cells hblk2
   obtain ⟨s0, s1, _, _⟩ := two_cells hblk3
   have z3 : w1.heap.size + 1 ≤ w2.heap.size := by have := hb2.size; simp at this; omega
   have HBK2 := Lib.hid hblk2
   have HBK3 := Lib.hid hblk3
   have HB2 := Lib.hid hb2
   clear hb2 FO hblk2 hblk3
   go_wp2_with fail
   refine (RC _).mono ?_
   rintro e w3 ⟨rfl, hb3⟩
   have hblk2 := (hb3.block w.heap.size (by omega)).trans HBK2.out
   have hblk3 := (hb3.block w1.heap.size (by omega)).trans HBK3.out
   obtain ⟨t0, t1, _, _⟩ := two_cells hblk2
   obtain ⟨s0, s1, _, _⟩ := two_cells hblk3
   have z4 : w2.heap.size ≤ w3.heap.size := hb3.size
   have HBK2 := Lib.hid hblk2
   have HB3 := Lib.hid hb3
   clear hb3 RC hblk2 hblk3
   go_wp2_with fail
   refine (CH _).mono ?_
   rintro e w4 ⟨rfl, hb4⟩
   have hblk2 := (hb4.block w.heap.size (by omega)).trans HBK2.out
   obtain ⟨t0, t1, _, _⟩ := two_cells hblk2
   have z5 : w3.heap.size ≤ w4.heap.size := hb4.size
   have HBK2 := Lib.hid hblk2
   have HB4 := Lib.hid hb4
   clear hb4 CH hblk2
   go_wp2_with fail
   have HBA := Lib.hid ((((((Below.refl w.heap.size w).alloc (Nat.le_refl _) (.cells #[.string (bsOf n), .string (bsOf b)] 25)).alloc (by simp) (.cells #[.string (bsOf n), .string (bsOf b)] 25)).trans (HB1.out.mono (by simp; omega))).setCell (Nat.le_refl _) _ |>.setCell (Nat.le_refl _) _ |>.alloc (by simp; omega) _).trans (HB2.out.mono (by simp; omega)) |>.trans (HB3.out.mono (by omega)) |>.trans (HB4.out.mono (by omega)))
   refine (HK.out _ (((bcell HBA.out).1 _ _ h0).trans HM.out)).mono ?_
   rintro e w5 ⟨rfl, hb5⟩
   have hblk2 := (hb5.block w.heap.size (by omega)).trans HBK2.out
   obtain ⟨t0, t1, _, _⟩ := two_cells hblk2
   have z6 : w4.heap.size ≤ w5.heap.size := hb5.size
   have HB5 := Lib.hid (HBA.out.trans (hb5.mono (by omega)))
   clear hb5 hblk2 HBK2
  ·
    go_wp2_with fail
    refine (RF _).mono ?_
    rintro e w6 ⟨rfl, hb6⟩
    have HB6 := Lib.hid (HB5.out.trans (hb6.mono (by omega)))
    clear hb6
    go_wp2
    go_ret
    exact ⟨rfl, HB6.out⟩
  ·
    go_wp2
    go_ret
    exact ⟨rfl, HB5.out⟩

set_option maxRecDepth 100000 in
theorem fieldChecks_lifted (os : Os) (started : os.Started) (H : Type) (enc : TypeId × Value → H) :
    ReturnsInHanded {} Try.checked os 4 .any (Rows.fieldChecksSpec.pre6 enc Try.prog Try.f4 Rows.fieldChecksRow.domain false) (Rows.fieldChecksSpec.post enc Try.prog Try.f4 false true false false) := by
  refine returnsInHanded_of_change_shaped (C := Try.checked) Try.own started (by kernel_rfl) Try.func4
    (ChangeSpec.witness6 (enc := enc) (C := Try.checked) false ⟨#[], #[.agg #[.string ⟨#[]⟩, .string ⟨#[]⟩]], []⟩ 8 (by kernel_rfl) (by kernel_rfl) (by kernel_rfl) (by kernel_rfl)) ?_
  intro W base args ds gs before hval0 hW hcnd0 hsz0 hsh _
  have hval : ∀ (j : Nat) t v, Try.f4.params[j]? = some t → args[j]? = some v → Value.okWide Try.prog W .any base t v := hval0
  have hW' := hW
  have hltb : ∀ x ∈ before, x.block < W.heap.size := fun x hx => hW.lt x hx
  have hsz : (DataW.weightsEach Try.prog (Try.f4.params.toList ++ []) (ds ++ gs)).all (· ≤ reachBytes) = true := hsz0
  obtain ⟨p, q, hA0, hV, rfl, hfz, hnd⟩ := hW
  have hA : DataW.TrodAll enc Try.prog W 0 (fun _ => true) true Try.f4.params.toList args.toList ds p := hA0
  rw [Try.params4] at hA hval hsz
  obtain ⟨v0, d0, rfl, rfl, h0⟩ := trodAll_one hA
  obtain ⟨rfl, rfl⟩ := trodVars_none hV
  obtain ⟨a0, b0, rfl, y0, z0⟩ := fld_arg (hval 0 25 v0 rfl rfl) h0 (fun n hn => by have := List.all_eq_true.1 hsz n (DataW.weights_mem_each (j := 0) rfl rfl n hn); simpa using this)
  obtain ⟨m, hm⟩ := maxLen_cell hsh
  clear hA0 hval0 hsz0
  simp only [List.append_nil] at hW' hltb
  refine (checks_any a0 b0 W m hm y0 z0).mono fun e W' ⟨he, hb⟩ => ?_
  subst he
  refine ⟨_, rfl, post_of_below (pa := p) (pv := []) hW' (fun _ _ _ => trodAll_mk1 (shut_bool Try.underlying4 true)) (fun sp hsp => ?_) (fun _ _ => rfl) (by simp) hb (ok_one (by kernel_rfl) rfl (okWide_bool_mk Try.underlying4 _))⟩
  refine trodAll_mk1 ?_
  · exact WideElems.Trod_stays Try.laidOut (by kernel_rfl) (of_decide_eq_true (by kernel_rfl)) h0 (fun x hx => hb.same (hltb x (by simp [hx]))) (fun x hx => hsp x (by simp [hx]))

theorem fieldChecks_holds : Rows.FieldChecksSaid :=
  OpenClaim.holds_of_wide 4 Try.f4 rfl rfl rfl rfl rfl rfl rfl ⟨rfl, rfl, rfl, rfl, rfl⟩ rfl rfl rfl rfl rfl (by kernel_rfl) Try.func4 (by kernel_rfl)
    (of_decide_eq_true (by kernel_rfl)) (by unfold Func.isWrapper; rw [if_neg (of_decide_eq_false (by kernel_rfl))]; exact ⟨rfl, rfl⟩)
    (fun os started H enc _ => fieldChecks_lifted os started H enc)
end Go.Proofs.Ytknamddpflkifaa
