/- The copy of a receiver, equality of receivers, and the comparison with the document, over this translation.
   Conditions: as each contract states them. -/
import Derived.Test.YtoeapcfnbomlgaaTrC
namespace Go.Proofs.Ytoeapcfnbomlgaa
open Go.RowKit Go.Lib

attribute [local go_sem ↓] S_ld_id S_ld_cmd S_ld_rcmd S_ld_R S_st_cmd S_st_rcmd S_st_R S_st_tk S_al_cmd S_al_rcmd S_al_R S_eq_id S_ne_id S_bd_recv S_bd_send S_bd_cmd S_bd_rcmd S_bd_R S_bd_id
attribute [local go_sem] runS_ld_id runS_ld_cmd runS_ld_rcmd runS_ld_R runS_st_cmd runS_st_rcmd runS_st_R runS_st_tk runS_al_cmd runS_al_rcmd runS_al_R runS_eq_id runS_ne_id guard_id runS_bd_recv2 runS_bd_recv3 runS_bd_send runS_bd_cmd4 runS_bd_cmd2 runS_bd_cmd0 runS_bd_rcmd runS_bd_R runS_bd_one
attribute [local go_sem] isPtr_some addrOf_some aggAt_drew aggAt_drewN hasAt_drew hasAt_drewN aggAt_alloc_old hasAt_alloc_old aggAt_setCell hasAt_setCell aggAt_set_apart hasAt_set_apart aggAt_new hasAt_new canPut_new canPut_drew canPut_drewN canPut_setCell putAgg_new cells_agg isAggOf_mk
  isInt_mk isStr_mk isBool_mk intOf'_mk strOf_mk boolOf_mk isBytes_true bytesOf_mk toId_val kL_whole rL_whole cL_whole take_byteCells byteCells_len' byteCells_all
  vL_length cL_length kL_length rL_length sL_length cL_0 cL_35 cL_38 cL_id cL_all kL_0 kL_33 kL_34 kL_id kL_all rL_32 rL_33 rL_34 rL_id rL_all rL_set33 rL_set34 kL_set33 kL_set34 cL_g0 cL_g35 cL_g38 kL_g0 kL_g33 kL_g34 rL_g32 rL_g33 rL_g34

attribute [local go_sem] aggAt_al1 aggAt_al2 hasAt_al1 hasAt_al2

theorem Rcv.newD (w : World) (B : Nat) (id : Id) (n : Int) (d : Bool) (hB : B ≤ w.heap.size) : Rcv B w.heap.size id n [] d none (w.alloc (.cells (vL id n (.pointer none) (.slice none 0 0) d).toArray 64)) := by
  refine ⟨_, ⟨hB, heap_alloc_new w _, .inl ?_, _, ?_, World.ownsRowF_nil _ _ _ _, rfl⟩, by rw [List.size_toArray, vL_length], ?_, ?_, ?_⟩
  · simp [vL, byteCells, List.getElem?_append, id.2]
  · simp [vL, byteCells, List.getElem?_append, id.2]
  · simp [vL, byteCells, List.take_append, id.2]
  · simp [vL, byteCells, List.getElem?_append, id.2]
  · simp [vL, byteCells, List.getElem?_append, id.2]

theorem rr_c33 {b : Nat} {id : Id} {n : Int} {t : ByteArray} {d : Bool} {w : World} (h : w.heap[b]? = some (.cells (rL id n t d).toArray 41 (0, 0))) : w.cell? ⟨b, 33, none⟩ = some (.string t) := by
  rw [Lib.cell_of_heap h, List.getElem?_toArray, rL_33]
theorem rr_c34 {b : Nat} {id : Id} {n : Int} {t : ByteArray} {d : Bool} {w : World} (h : w.heap[b]? = some (.cells (rL id n t d).toArray 41 (0, 0))) : w.cell? ⟨b, 34, none⟩ = some (.bool d) := by
  rw [Lib.cell_of_heap h, List.getElem?_toArray, rL_34]

set_option maxHeartbeats 1000000 in
theorem same_no {B b : Nat} {id : Id} {n : Int} {bs : List UInt8} {g : Option Nat} {w : World} (h : Rcv B b id n bs false g w) :
    Calls Try.prog 15 #[.pointer (some ⟨b, 0, none⟩), .agg (rL id n ⟨bs.toArray⟩ false).toArray] w fun e w' => e = .returned (.bool true) ∧ Rcv B b id n bs false g w' ∧ Kept (fun k => g = some k) w w' := by
  have hz : ((⟨bs.toArray⟩ : ByteArray).size : Int) = bs.length := by rw [bytes_size]
  go_enter Try.func15, Try.ntmps15
  go_wp2_with (go_at_call 11; refine (text_no (h.alloc _)).mono ?_; rintro e w1 ⟨rfl, rfl⟩)
  have h1 := h.alloc (.cells (rL id n ⟨bs.toArray⟩ false).toArray 41)
  go_quiet ((first
    | (go_at_call 10; exact quiet_left (from_any (h1.drewN _)))
    | (go_at_call 17; exact quiet_left (complete_any (h1.drewN _)))))
  go_wp2
  go_ret
  exact ⟨rfl, h1.drewN _, ((Kept.refl _ w).alloc _).drewN _⟩

set_option maxHeartbeats 1000000 in
theorem same_yes {B b : Nat} {id : Id} {n : Int} {bs : List UInt8} {g : Option Nat} {w : World} (h : Rcv B b id n bs true g w) :
    Calls Try.prog 15 #[.pointer (some ⟨b, 0, none⟩), .agg (rL id n ⟨bs.toArray⟩ true).toArray] w fun e w' => e = .returned (.bool true) ∧ Rcv B b id n bs true g w' ∧ Kept (fun k => g = some k) w w' := by
  have hz : ((⟨bs.toArray⟩ : ByteArray).size : Int) = bs.length := by rw [bytes_size]
  go_enter Try.func15, Try.ntmps15
  go_wp2_with (go_at_call 11; refine (text_yes (h.alloc _)).mono ?_; rintro e w1 ⟨rfl, h1, hk⟩; have hb := hk.heap (heap_alloc_new w (.cells (rL id n ⟨bs.toArray⟩ true).toArray 41)) (fun f => Nat.lt_irrefl _ (h.glt _ f).2); have d33 := rr_c33 hb; have d34 := rr_c34 hb; have HK := Lib.hid hk; have H1 := Lib.hid h1; clear hb hk h1)
  go_quiet ((first
    | (go_at_call 10; exact quiet_left (from_any (H1.out.drewN _)))
    | (go_at_call 17; exact quiet_left (complete_any (H1.out.drewN _)))))
  go_wp2
  go_ret
  exact ⟨rfl, H1.out.drewN _, ((((Kept.refl (fun _ => False) w).alloc _).mono (fun _ _ f => f.elim)).trans HK.out (fun _ _ f => f)).drewN _⟩

theorem same_any {B b : Nat} {id : Id} {n : Int} {bs : List UInt8} {d : Bool} {g : Option Nat} {w : World} (h : Rcv B b id n bs d g w) :
    Calls Try.prog 15 #[.pointer (some ⟨b, 0, none⟩), .agg (rL id n ⟨bs.toArray⟩ d).toArray] w fun e w' => e = .returned (.bool true) ∧ Rcv B b id n bs d g w' ∧ Kept (fun k => g = some k) w w' := by
  cases d
  · exact (same_no h).mono fun e w' ⟨he, hR, hk⟩ => ⟨he, hR, hk⟩
  · exact (same_yes h).mono fun e w' ⟨he, hR, hk⟩ => ⟨he, hR, hk⟩

set_option maxHeartbeats 1000000 in
theorem clone_any {B b : Nat} {id : Id} {n : Int} {bs : List UInt8} {d : Bool} {g : Option Nat} {w : World} (h : Rcv B b id n bs d g w) (hlen : bs.length ≤ 65536) (hBw : B ≤ w.heap.size) :
    Calls Try.prog 13 #[.pointer (some ⟨b, 0, none⟩)] w fun e w' => e = .returned (.pointer (some ⟨w.heap.size, 0, none⟩)) ∧ Rcv B b id n bs d g w' ∧
      ∃ g', Rcv B w.heap.size id n bs d g' w' ∧ Kept (fun k => g = some k) w w' ∧ ∀ k, g' = some k → w.heap.size ≤ k := by
  obtain ⟨lt, c32, c35, f35, agg, has⟩ := h.facts
  go_enter Try.func13, Try.ntmps13
  go_wp2
  go_region
  go_wp2
  have HA := Lib.hid ((h.alloc (.cells (vL id n (.pointer none) (.slice none 0 0) d).toArray 64)).drewN 1)
  have HC := Lib.hid ((Rcv.newD w B id n d hBw).drewN 1)
  have HB := Lib.hid hBw
  have HG := Lib.hid h.glt
  have HL := Lib.hid lt
  clear h hBw
  go_region_law (go_simp; first
    | (go_at_call 23; refine (rcv_String (HA.out.drewN 1)).mono ?_; rintro e w1 ⟨rfl, hR1, hk1⟩; have HC1 := Lib.hid ((HC.out.drewN 1).kept hk1 (fun f => Nat.lt_irrefl _ (HG.out _ f).2) (fun _ f => by cases f)); have HR1 := Lib.hid hR1; have HK1 := Lib.hid hk1; clear hR1 hk1)
    | (go_at_call 24; refine (rcv_Write HC1.out ⟨bs.toArray⟩ (by rw [bytes_size]; simp; omega) (Nat.le_trans HB.out (by have := HK1.out.size; simp at this; omega))).mono ?_; rintro e w2 ⟨rfl, g', hC2, hk2, hg2⟩))
  all_goals
    go_wp2
    go_ret
    have hs1 : w.heap.size + 1 ≤ w1.heap.size := by have := HK1.out.size; simp at this; omega
    refine ⟨rfl, HR1.out.kept hk2 ?_ ?_, g', by simpa using hC2, ?_, ?_⟩
    · intro f
      rcases f with f | f
      · exact absurd HL.out (by rw [f]; exact Nat.lt_irrefl _)
      · cases f
    · intro k hk f
      rcases f with f | f
      · exact absurd (HG.out k hk).2 (by rw [f]; exact Nat.lt_irrefl _)
      · cases f
    · refine (((((((Kept.refl (fun _ => False) w).alloc _).drewN 1).drewN 1).mono (fun _ _ f => f.elim)).trans HK1.out (fun _ _ f => f))).trans hk2 ?_
      intro k hk f
      rcases f with f | f
      · exact absurd hk (by rw [f]; exact Nat.lt_irrefl _)
      · cases f
    · intro k hk
      rcases hg2 with h | h
      · rw [h] at hk; cases hk
      · exact Nat.le_trans (by omega) (h k hk)

/-- Two receivers lie apart. -/
structure Sep (b1 : Nat) (g1 : Option Nat) (b2 : Nat) (g2 : Option Nat) : Prop where
  a : ¬ g2 = some b1
  b : ¬ g1 = some b2
  c : ∀ k, g1 = some k → ¬ g2 = some k
theorem Sep.symm {b1 : Nat} {g1 : Option Nat} {b2 : Nat} {g2 : Option Nat} (h : Sep b1 g1 b2 g2) : Sep b2 g2 b1 g1 := ⟨h.b, h.a, fun k h2 h1 => h.c k h1 h2⟩

set_option maxHeartbeats 2000000 in
theorem equal_size {B b1 b2 : Nat} {id : Id} {n1 n2 : Int} {bs1 bs2 : List UInt8} {d1 d2 : Bool} {g1 g2 : Option Nat} {w : World} (h1 : Rcv B b1 id n1 bs1 d1 g1 w) (h2 : Rcv B b2 id n2 bs2 d2 g2 w) (hn : (n1 == n2) = false) :
    Calls Try.prog 14 #[.pointer (some ⟨b1, 0, none⟩), .pointer (some ⟨b2, 0, none⟩)] w fun e w' => e = .returned (.bool false) ∧ Kept (fun _ => False) w w' := by
  obtain ⟨lt, c32, c35, f35, agg, has⟩ := h1.facts
  obtain ⟨lt', c32', c35', f35', agg', has'⟩ := h2.facts
  have hid : (id.1 == id.1) = true := beq_self_eq_true _
  go_enter Try.func14, Try.ntmps14
  go_wp2
  go_region
  all_goals (go_wp2; go_ret; exact ⟨rfl, (Kept.refl _ w).drewN 1⟩)

set_option maxHeartbeats 2000000 in
theorem equal_done {B b1 b2 : Nat} {id : Id} {n : Int} {bs1 bs2 : List UInt8} {d1 d2 : Bool} {g1 g2 : Option Nat} {w : World} (h1 : Rcv B b1 id n bs1 d1 g1 w) (h2 : Rcv B b2 id n bs2 d2 g2 w) (hd : (d1 == d2) = false) :
    Calls Try.prog 14 #[.pointer (some ⟨b1, 0, none⟩), .pointer (some ⟨b2, 0, none⟩)] w fun e w' => e = .returned (.bool false) ∧ Kept (fun _ => False) w w' := by
  obtain ⟨lt, c32, c35, f35, agg, has⟩ := h1.facts
  obtain ⟨lt', c32', c35', f35', agg', has'⟩ := h2.facts
  have hid : (id.1 == id.1) = true := beq_self_eq_true _
  have hn : (n == n) = true := beq_self_eq_true _
  go_enter Try.func14, Try.ntmps14
  go_wp2
  go_region
  all_goals (go_wp2; go_ret; exact ⟨rfl, (Kept.refl _ w).drewN 1⟩)

end Go.Proofs.Ytoeapcfnbomlgaa
