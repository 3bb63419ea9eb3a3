/- bulletinlaw32.known over this translation: the example of the document holds.
   Conditions: none. -/
import Derived.Test.YtoeapcfnbomlgaaTr3
import Derived.Test.YtoeapcfnbomlgaaTrQ
namespace Go.Proofs.Ytoeapcfnbomlgaa
open Go.RowKit Go.Lib

attribute [local go_sem ↓] S_ld_id S_ld_cmd S_ld_rcmd S_ld_R S_st_cmd S_st_rcmd S_st_R S_st_tk S_al_cmd S_al_rcmd S_al_R S_eq_id S_ne_id S_bd_recv S_bd_send S_bd_cmd S_bd_rcmd S_bd_R S_bd_id
attribute [local go_sem] runS_ld_id runS_ld_cmd runS_ld_rcmd runS_ld_R runS_st_cmd runS_st_rcmd runS_st_R runS_st_tk runS_al_cmd runS_al_rcmd runS_al_R runS_eq_id runS_ne_id guard_id runS_bd_recv2 runS_bd_recv3 runS_bd_send runS_bd_cmd4 runS_bd_cmd2 runS_bd_cmd0 runS_bd_rcmd runS_bd_R runS_bd_one
attribute [local go_sem] isPtr_some addrOf_some aggAt_drew aggAt_drewN hasAt_drew hasAt_drewN aggAt_alloc_old hasAt_alloc_old aggAt_setCell hasAt_setCell aggAt_set_apart hasAt_set_apart aggAt_new hasAt_new canPut_new canPut_drew canPut_drewN canPut_setCell putAgg_new cells_agg isAggOf_mk
  isInt_mk isStr_mk isBool_mk intOf'_mk strOf_mk boolOf_mk isBytes_true bytesOf_mk toId_val kL_whole rL_whole cL_whole take_byteCells byteCells_len' byteCells_all
  vL_length cL_length kL_length rL_length sL_length cL_0 cL_35 cL_38 cL_id cL_all kL_0 kL_33 kL_34 kL_id kL_all rL_32 rL_33 rL_34 rL_id rL_all rL_set33 rL_set34 kL_set33 kL_set34 cL_g0 cL_g35 cL_g38 kL_g0 kL_g33 kL_g34 rL_g32 rL_g33 rL_g34


attribute [local go_sem ↓] S_eq_cmd
attribute [local go_sem] runS_eq_cmd guard_cmd
def sAbcde : ByteArray := ⟨#[97, 98, 99, 100, 101]⟩

theorem CmdAt.kept {F : Nat → Prop} {b : Nat} {v : Int} {cid : Id} {fr : Int} {t : ByteArray} {w w' : World} (h : w.heap[b]? = some (.cells (cL v ⟨#[]⟩ cid 0 fr 0 0 t).toArray 34 (0, 0))) (hk : Kept F w w') (hF : ¬ F b) : CmdAt b v cid fr t w' := cmdAt_of (hk.heap h hF)

theorem cmd_c35 {b : Nat} {v : Int} {cid : Id} {fr : Int} {t : ByteArray} {w : World} (h : w.heap[b]? = some (.cells (cL v ⟨#[]⟩ cid 0 fr 0 0 t).toArray 34 (0, 0))) : w.cell? ⟨b, 35, none⟩ = some (.int .i64 fr) := by
  rw [Lib.cell_of_heap h, List.getElem?_toArray, cL_35]
theorem cmd_c38 {b : Nat} {v : Int} {cid : Id} {fr : Int} {t : ByteArray} {w : World} (h : w.heap[b]? = some (.cells (cL v ⟨#[]⟩ cid 0 fr 0 0 t).toArray 34 (0, 0))) : w.cell? ⟨b, 38, none⟩ = some (.string t) := by
  rw [Lib.cell_of_heap h, List.getElem?_toArray, cL_38]

theorem known_chain {w w1 w2 w3 w4 w5 w6 : World} {o1 o2 : Obj} {n b : Nat} (h1 : Kept (fun _ => False) w w1) (h2 : Kept (fun k => k = w.heap.size + 1) w1 w2) (h3 : Kept (fun k => k = w.heap.size + 1) (w2.alloc o1) w3)
    (h4 : Kept (fun _ => False) (w3.alloc o2) w4) (h5 : Kept (fun _ => False) (w4.drewN n) w5) (hb : b = w3.heap.size + 1 + 1) (h6 : Kept (fun k => k = b ∨ none = some k) w5 w6) : Kept (fun _ => False) w w6 := by
  have s1 := h1.size
  have s2 := h2.size
  have s3 := h3.size
  rw [World.size_alloc] at s3
  refine (((((((h1.trans h2 ?_).alloc o1).trans h3 ?_).alloc o2).trans h4 (fun _ _ f => f)).drewN n).trans h5 (fun _ _ f => f)).trans h6 ?_
  · intro k hk f
    have f' : k = w.heap.size + 1 := f
    omega
  · intro k hk f
    have f' : k = w.heap.size + 1 := f
    omega
  · intro k hk f
    rcases f with f | f
    · omega
    · cases f

set_option maxHeartbeats 20000000 in
theorem known_any (w : World) : Calls Try.prog 6 #[] w fun e w' => e = .returned (.bool true) ∧ Kept (fun _ => False) w w' := by
  go_enter Try.func6, Try.ntmps6
  go_wp2_with fail
  refine (newSender_ok idOne sAbcde 2 0 _ (by decide) (by decide) (by decide) (by decide) (by decide)).mono ?_
  rintro e w1 ⟨rfl, hS1, hk1⟩
  have HL1 := Lib.hid hS1.lt
  go_wp2_with fail
  refine (say_part2 hS1 (by decide) (by decide) (by decide) (by decide) (by decide) (by decide)).mono ?_
  rintro e w2 ⟨rfl, hS2, hk2⟩
  rw [show sAbcde.extract (0 : Int).toNat ((0 : Int) + 2).toNat = ⟨#[97, 98]⟩ from rfl]
  go_wp2_with fail
  have hA := heap_alloc_new w2 (.cells (cL 7 ⟨#[]⟩ idOne 0 0 0 0 ⟨#[97, 98]⟩).toArray 34)
  have HA := Lib.hid hA
  clear hA
  refine (say_part2 (hS2.kept ((Kept.refl (fun _ => False) w2).alloc _) (fun f => f)) (by decide) (by decide) (by decide) (by decide) (by decide) (by decide)).mono ?_
  rintro e w3 ⟨rfl, hS3, hk3⟩
  rw [show sAbcde.extract ((0 : Int) + 2).toNat ((0 : Int) + 2 + 2).toNat = ⟨#[99, 100]⟩ from rfl]
  go_wp2_with fail
  have hB := heap_alloc_new w3 (.cells (cL 7 ⟨#[]⟩ idOne 0 (0 + 2) 0 0 ⟨#[99, 100]⟩).toArray 34)
  have HB := Lib.hid hB
  clear hB
  refine (newReceiver_ok w.heap.size idOne 5 _ (by decide) (by decide) ?hsz).mono ?_
  case hsz => have := hk1.size; have := hk2.size; have := hk3.size; simp at *; omega
  rintro e w4 ⟨rfl, hR, hk4⟩
  rw [World.size_alloc] at hR
  have HK1 := Lib.hid hk1
  have HK2 := Lib.hid hk2
  have HK3 := Lib.hid hk3
  have HK4 := Lib.hid hk4
  have HR := Lib.hid hR
  have hsz4 : w.heap.size ≤ w4.heap.size := by
    have a1 := hk1.size
    have a2 := hk2.size
    have a3 := hk3.size
    have a4 := hk4.size
    rw [World.size_alloc] at a3 a4
    omega
  clear hk1 hk2 hk3 hk4 hS1 hS2 hS3 hR
  have hlt2 : w2.heap.size < w3.heap.size := by have := HK3.out.size; simp at this; omega
  have hA4 := HK4.out.heap ((Below.heap_alloc w3 (.cells (cL 7 ⟨#[]⟩ idOne 0 (0 + 2) 0 0 ⟨#[99, 100]⟩).toArray 34) _ hlt2).trans (HK3.out.heap HA.out (by have := HK2.out.size; have := HL1.out; simp; omega))) (fun f => f)
  have hB4 := HK4.out.heap HB.out (fun f => f)
  obtain ⟨alt, ac0, aagg2, ahas2, aagg0, ahas0⟩ := cmdAt_of hA4
  have HA4 := Lib.hid hA4
  have HB4 := Lib.hid hB4
  have bc35 := cmd_c35 hB4
  have bc38 := cmd_c38 hB4
  clear hA4 hB4 ac0 aagg2 ahas2 hlt2
  go_wp2_with fail
  go_region_law (go_simp; first
    | (go_at_call 9; refine (own_any 7 idOne 0 ⟨#[97, 98]⟩ _).mono ?_; rintro e w5 ⟨rfl, hk5⟩; obtain ⟨alt5, _, _, _, aagg5, ahas5⟩ := cmdAt_of (hk5.heap HA4.out (fun f => f)); have bc35' := cmd_c35 (hk5.heap HB4.out (fun f => f)); have bc38' := cmd_c38 (hk5.heap HB4.out (fun f => f)); have HK5 := Lib.hid hk5; clear hk5)
    | (go_at_call 8; refine (hear_data ((HR.out.drewN 1).kept HK5.out (fun f => f) (fun _ _ f => f)) (by decide) (by decide) (by decide) (by decide) (Nat.le_trans hsz4 HK5.out.size)).mono ?_; rintro e w6 ⟨rfl, g6, hR6, hk6, hg6⟩)
    | (go_at_call 10; refine (from_any hR6).mono ?_; rintro e w7 ⟨rfl, rfl⟩))
  all_goals (go_wp2; go_ret; exact ⟨rfl, known_chain HK1.out HK2.out HK3.out HK4.out HK5.out rfl hk6⟩)
end Go.Proofs.Ytoeapcfnbomlgaa
