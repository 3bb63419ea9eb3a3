/- The document answer for a command, the copy of a receiver, equality of receivers, and the comparison with the document, over this translation.
   Conditions: as each contract states them. -/
import Derived.Test.YtoeapcfnbomlgaaTr3
namespace Go.Proofs.Ytoeapcfnbomlgaa
open Go.RowKit Go.Lib

attribute [local go_sem ↓] S_ld_id S_ld_cmd S_ld_rcmd S_ld_R S_st_cmd S_st_rcmd S_st_R S_st_tk S_al_cmd S_al_rcmd S_al_R S_eq_id S_ne_id S_bd_recv S_bd_send S_bd_cmd S_bd_rcmd S_bd_R S_bd_id
attribute [local go_sem] runS_ld_id runS_ld_cmd runS_ld_rcmd runS_ld_R runS_st_cmd runS_st_rcmd runS_st_R runS_st_tk runS_al_cmd runS_al_rcmd runS_al_R runS_eq_id runS_ne_id guard_id runS_bd_recv2 runS_bd_recv3 runS_bd_send runS_bd_cmd4 runS_bd_cmd2 runS_bd_cmd0 runS_bd_rcmd runS_bd_R runS_bd_one
attribute [local go_sem] isPtr_some addrOf_some aggAt_drew aggAt_drewN hasAt_drew hasAt_drewN aggAt_alloc_old hasAt_alloc_old aggAt_setCell hasAt_setCell aggAt_set_apart hasAt_set_apart aggAt_new hasAt_new canPut_new canPut_drew canPut_drewN canPut_setCell putAgg_new cells_agg isAggOf_mk
  isInt_mk isStr_mk isBool_mk intOf'_mk strOf_mk boolOf_mk isBytes_true bytesOf_mk toId_val kL_whole rL_whole cL_whole take_byteCells byteCells_len' byteCells_all
  vL_length cL_length kL_length rL_length sL_length cL_0 cL_35 cL_38 cL_id cL_all kL_0 kL_33 kL_34 kL_id kL_all rL_32 rL_33 rL_34 rL_id rL_all rL_set33 rL_set34 kL_set33 kL_set34 cL_g0 cL_g35 cL_g38 kL_g0 kL_g33 kL_g34 rL_g32 rL_g33 rL_g34


theorem blk_al1 (w : World) (C : List Value) (T : TypeId) (o1 : Obj) : ((w.alloc (.cells C.toArray T)).alloc o1).heap[w.heap.size]? = some (.cells C.toArray T (0, 0)) :=
  (Below.heap_alloc _ _ _ (by simp)).trans (heap_alloc_new w _)
theorem blk_al2 (w : World) (C : List Value) (T : TypeId) (o1 o2 : Obj) : (((w.alloc (.cells C.toArray T)).alloc o1).alloc o2).heap[w.heap.size]? = some (.cells C.toArray T (0, 0)) :=
  (Below.heap_alloc _ _ _ (by simp; omega)).trans (blk_al1 w C T o1)
theorem aggAt_al1 (w : World) (C : List Value) (T : TypeId) (o1 : Obj) (b k n : Nat) (hb : b = w.heap.size) (h : k + n ≤ C.length) : aggAt ((w.alloc (.cells C.toArray T)).alloc o1) ⟨b, k, none⟩ n = sub C k n := by
  subst hb; exact aggAt_of (blk_al1 w C T o1) k n (by simpa using h)
theorem aggAt_al2 (w : World) (C : List Value) (T : TypeId) (o1 o2 : Obj) (b k n : Nat) (hb : b = w.heap.size) (h : k + n ≤ C.length) : aggAt (((w.alloc (.cells C.toArray T)).alloc o1).alloc o2) ⟨b, k, none⟩ n = sub C k n := by
  subst hb; exact aggAt_of (blk_al2 w C T o1 o2) k n (by simpa using h)
theorem hasAt_al1 (w : World) (C : List Value) (T : TypeId) (o1 : Obj) (b k n : Nat) (hb : b = w.heap.size) (h : k + n ≤ C.length) : hasAt ((w.alloc (.cells C.toArray T)).alloc o1) ⟨b, k, none⟩ n = True := by
  subst hb; exact eq_true (hasAt_of (blk_al1 w C T o1) k n (by simpa using h))
theorem hasAt_al2 (w : World) (C : List Value) (T : TypeId) (o1 o2 : Obj) (b k n : Nat) (hb : b = w.heap.size) (h : k + n ≤ C.length) : hasAt (((w.alloc (.cells C.toArray T)).alloc o1).alloc o2) ⟨b, k, none⟩ n = True := by
  subst hb; exact eq_true (hasAt_of (blk_al2 w C T o1 o2) k n (by simpa using h))
attribute [local go_sem] aggAt_al1 aggAt_al2 hasAt_al1 hasAt_al2

theorem rr_res {fn : Func} {p q : Tmp} (h : fn.results = #[.cell p 41, .tmp q]) (tmps : Array Value) (w : World) (g : Nat) (id : Id) (n : Int) (t : ByteArray) (d : Bool)
    (hp : tmps.getD p undef = .pointer (some ⟨g, 0, none⟩)) (hg : w.heap[g]? = some (.cells (rL id n t d).toArray 41 (0, 0))) :
    (results fn tmps).run Try.prog w = .ok (.tuple #[.agg (rL id n t d).toArray, tmps.getD q undef]) w :=
  results_cell_row_tmp h tmps w g 41 _ (0, 0) _ hp hg Try.underlying41 (by kernel_rfl) (by rw [List.size_toArray, rL_length]; kernel_rfl)

theorem heap3 (w : World) (o1 o2 : Obj) (C : Array Value) (T : TypeId) : (((w.alloc o1).alloc o2).alloc (.cells C T)).heap[w.heap.size + 1 + 1]? = some (.cells C T (0, 0)) := by
  have := heap_alloc_new ((w.alloc o1).alloc o2) (.cells C T)
  rwa [World.size_alloc, World.size_alloc] at this

set_option maxHeartbeats 400000 in
theorem rhear_state (id : Id) (n : Int) (x : ByteArray) (v : Int) (fr : Int) (cid : Id) (t : ByteArray) (w : World)  :
    Calls Try.prog 12 #[.agg (rL id n x true).toArray, .agg (kL v cid fr t).toArray] w fun e w' => e = .returned (.tuple #[.agg (rL id n x true).toArray, .int .i64 10]) ∧ Kept (fun _ => False) w w' := by
  go_enter Try.func12, Try.ntmps12
  go_wp2
  (try simp only [Exit.inBlock, Exit.then])
  refine bodyPost_ret (rr_res rfl _ _ (w.heap.size + 1 + 1) id n x true rfl (heap3 _ _ _ _ _)) rfl ⟨rfl, ?_⟩
  exact (((Kept.refl _ w).alloc _).alloc _).alloc _

set_option maxHeartbeats 400000 in
theorem rhear_kind (id : Id) (n : Int) (x : ByteArray) (v : Int) (fr : Int) (cid : Id) (t : ByteArray) (w : World) (h7 : (v != 7) = true) (h8 : (v != 8) = true) :
    Calls Try.prog 12 #[.agg (rL id n x false).toArray, .agg (kL v cid fr t).toArray] w fun e w' => e = .returned (.tuple #[.agg (rL id n x false).toArray, .int .i64 11]) ∧ Kept (fun _ => False) w w' := by
  go_enter Try.func12, Try.ntmps12
  go_wp2
  (try simp only [Exit.inBlock, Exit.then])
  refine bodyPost_ret (rr_res rfl _ _ (w.heap.size + 1 + 1) id n x false rfl (heap3 _ _ _ _ _)) rfl ⟨rfl, ?_⟩
  exact (((Kept.refl _ w).alloc _).alloc _).alloc _

set_option maxHeartbeats 400000 in
theorem rhear_not7 (id : Id) (n : Int) (x : ByteArray) (fr : Int) (cid : Id) (t : ByteArray) (w : World) (hid : (cid.1 == id.1) = false) :
    Calls Try.prog 12 #[.agg (rL id n x false).toArray, .agg (kL 7 cid fr t).toArray] w fun e w' => e = .returned (.tuple #[.agg (rL id n x false).toArray, .int .i64 8]) ∧ Kept (fun _ => False) w w' := by
  go_enter Try.func12, Try.ntmps12
  go_wp2
  (try simp only [Exit.inBlock, Exit.then])
  refine bodyPost_ret (rr_res rfl _ _ (w.heap.size + 1 + 1) id n x false rfl (heap3 _ _ _ _ _)) rfl ⟨rfl, ?_⟩
  exact (((Kept.refl _ w).alloc _).alloc _).alloc _

set_option maxHeartbeats 400000 in
theorem rhear_not8 (id : Id) (n : Int) (x : ByteArray) (fr : Int) (cid : Id) (t : ByteArray) (w : World) (hid : (cid.1 == id.1) = false) :
    Calls Try.prog 12 #[.agg (rL id n x false).toArray, .agg (kL 8 cid fr t).toArray] w fun e w' => e = .returned (.tuple #[.agg (rL id n x false).toArray, .int .i64 8]) ∧ Kept (fun _ => False) w w' := by
  go_enter Try.func12, Try.ntmps12
  go_wp2
  (try simp only [Exit.inBlock, Exit.then])
  refine bodyPost_ret (rr_res rfl _ _ (w.heap.size + 1 + 1) id n x false rfl (heap3 _ _ _ _ _)) rfl ⟨rfl, ?_⟩
  exact (((Kept.refl _ w).alloc _).alloc _).alloc _

set_option maxHeartbeats 400000 in
theorem rhear_short (id : Id) (n : Int) (x : ByteArray) (fr : Int) (cid : Id) (t : ByteArray) (w : World) (hid : (cid.1 == id.1) = true) (hs : x.size < n) :
    Calls Try.prog 12 #[.agg (rL id n x false).toArray, .agg (kL 8 cid fr t).toArray] w fun e w' => e = .returned (.tuple #[.agg (rL id n x false).toArray, .int .i64 4]) ∧ Kept (fun _ => False) w w' := by
  go_enter Try.func12, Try.ntmps12
  go_wp2
  (try simp only [Exit.inBlock, Exit.then])
  refine bodyPost_ret (rr_res rfl _ _ (w.heap.size + 1 + 1) id n x false rfl (heap3 _ _ _ _ _)) rfl ⟨rfl, ?_⟩
  exact (((Kept.refl _ w).alloc _).alloc _).alloc _

set_option maxHeartbeats 400000 in
theorem rhear_done (id : Id) (n : Int) (x : ByteArray) (fr : Int) (cid : Id) (t : ByteArray) (w : World) (hid : (cid.1 == id.1) = true) (hs : n ≤ x.size) :
    Calls Try.prog 12 #[.agg (rL id n x false).toArray, .agg (kL 8 cid fr t).toArray] w fun e w' => e = .returned (.tuple #[.agg (rL id n x true).toArray, .int .i64 0]) ∧ Kept (fun _ => False) w w' := by
  go_enter Try.func12, Try.ntmps12
  go_wp2
  (try simp only [Exit.inBlock, Exit.then])
  refine bodyPost_ret (rr_res rfl _ _ (w.heap.size + 1 + 1) id n x true rfl (heap3 _ _ _ _ _)) rfl ⟨rfl, ?_⟩
  exact (((Kept.refl _ w).alloc _).alloc _).alloc _

set_option maxHeartbeats 400000 in
theorem rhear_seq (id : Id) (n : Int) (x : ByteArray) (fr : Int) (cid : Id) (t : ByteArray) (w : World) (hid : (cid.1 == id.1) = true) (hs : fr ≠ x.size) :
    Calls Try.prog 12 #[.agg (rL id n x false).toArray, .agg (kL 7 cid fr t).toArray] w fun e w' => e = .returned (.tuple #[.agg (rL id n x false).toArray, .int .i64 30]) ∧ Kept (fun _ => False) w w' := by
  go_enter Try.func12, Try.ntmps12
  go_wp2
  (try simp only [Exit.inBlock, Exit.then])
  refine bodyPost_ret (rr_res rfl _ _ (w.heap.size + 1 + 1) id n x false rfl (heap3 _ _ _ _ _)) rfl ⟨rfl, ?_⟩
  exact (((Kept.refl _ w).alloc _).alloc _).alloc _

set_option maxHeartbeats 400000 in
theorem rhear_long (id : Id) (n : Int) (x : ByteArray)  (cid : Id) (t : ByteArray) (w : World) (hid : (cid.1 == id.1) = true) (hx : x.size ≤ 1000000) (ht : t.size ≤ 1000000) (hs : n < x.size + t.size) :
    Calls Try.prog 12 #[.agg (rL id n x false).toArray, .agg (kL 7 cid x.size t).toArray] w fun e w' => e = .returned (.tuple #[.agg (rL id n x false).toArray, .int .i64 5]) ∧ Kept (fun _ => False) w w' := by
  go_enter Try.func12, Try.ntmps12
  go_wp2
  (try simp only [Exit.inBlock, Exit.then])
  refine bodyPost_ret (rr_res rfl _ _ (w.heap.size + 1 + 1) id n x false rfl (heap3 _ _ _ _ _)) rfl ⟨rfl, ?_⟩
  exact (((Kept.refl _ w).alloc _).alloc _).alloc _

set_option maxHeartbeats 400000 in
theorem rhear_data (id : Id) (n : Int) (x : ByteArray)  (cid : Id) (t : ByteArray) (w : World) (hid : (cid.1 == id.1) = true) (hn : n ≤ 65536) (hs : x.size + t.size ≤ n) :
    Calls Try.prog 12 #[.agg (rL id n x false).toArray, .agg (kL 7 cid x.size t).toArray] w fun e w' => e = .returned (.tuple #[.agg (rL id n (x ++ t) false).toArray, .int .i64 0]) ∧ Kept (fun _ => False) w w' := by
  go_enter Try.func12, Try.ntmps12
  go_wp2
  (try simp only [Exit.inBlock, Exit.then])
  refine bodyPost_ret (rr_res rfl _ _ (w.heap.size + 1 + 1) id n (x ++ t) false rfl (heap3 _ _ _ _ _)) rfl ⟨rfl, ?_⟩
  exact (((Kept.refl _ w).alloc _).alloc _).alloc _

theorem bytes_size (bs : List UInt8) : (⟨bs.toArray⟩ : ByteArray).size = bs.length := by simp [ByteArray.size]
theorem bytes_app (bs : List UInt8) (t : ByteArray) : (⟨bs.toArray⟩ : ByteArray) ++ t = ⟨(bs ++ t.data.toList).toArray⟩ := by
  apply ByteArray.ext
  simp [ByteArray.data_append]

theorem rhear_any (id : Id) (n : Int) (bs : List UInt8) (d : Bool) (v : Int) (cid : Id) (fr : Int) (t : ByteArray) (w : World) (h1 : n ≤ 65536) (hl : bs.length ≤ n) (ht : t.size ≤ 1000000) :
    Calls Try.prog 12 #[.agg (rL id n ⟨bs.toArray⟩ d).toArray, .agg (kL v cid fr t).toArray] w fun e w' =>
      e = .returned (.tuple #[.agg (rL id n ⟨(hearS id n bs d v cid fr t).1.1.toArray⟩ (hearS id n bs d v cid fr t).1.2).toArray, .int .i64 (hearS id n bs d v cid fr t).2]) ∧ Kept (fun _ => False) w w' := by
  have hz := bytes_size bs
  unfold hearS
  by_cases hd : d = true
  · subst hd
    simp only [if_true]
    exact rhear_state id n _ v fr cid t w
  · have hd' : d = false := by simpa using hd
    subst hd'
    rw [if_neg hd]
    by_cases hv : v ≠ 7 ∧ v ≠ 8
    · rw [if_pos hv]
      exact rhear_kind id n _ v fr cid t w (bne_iff_ne.2 hv.1) (bne_iff_ne.2 hv.2)
    · rw [if_neg hv]
      have hv' : v = 7 ∨ v = 8 := by omega
      by_cases hid : (cid.1 == id.1) = false
      · rw [if_pos hid]
        rcases hv' with rfl | rfl
        · exact rhear_not7 id n _ fr cid t w hid
        · exact rhear_not8 id n _ fr cid t w hid
      · rw [if_neg hid]
        have hid' : (cid.1 == id.1) = true := by simpa using hid
        rcases hv' with rfl | rfl
        · rw [if_neg (by decide)]
          by_cases hf : fr ≠ bs.length
          · rw [if_pos hf]
            exact rhear_seq id n _ fr cid t w hid' (by rw [hz]; exact hf)
          · have hf' : fr = bs.length := by omega
            subst hf'
            rw [if_neg hf]
            have hz' : ((⟨bs.toArray⟩ : ByteArray).size : Int) = bs.length := by rw [hz]
            by_cases hn : n < bs.length + t.size
            · rw [if_pos hn, ← hz']
              exact rhear_long id n _ cid t w hid' (by omega) ht (by omega)
            · rw [if_neg hn, ← hz']
              have := rhear_data id n ⟨bs.toArray⟩ cid t w hid' h1 (by omega)
              rwa [bytes_app] at this
        · rw [if_pos rfl]
          by_cases hn : (bs.length : Int) < n
          · rw [if_pos hn]
            exact rhear_short id n _ fr cid t w hid' (by rw [hz]; exact hn)
          · rw [if_neg hn]
            exact rhear_done id n _ fr cid t w hid' (by rw [hz]; omega)

end Go.Proofs.Ytoeapcfnbomlgaa
