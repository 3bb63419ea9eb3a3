/- Contracts of package transfer's Receiver over this translation: what Hear, Clone and Equal do.
   Conditions: as each contract states them. -/
import Derived.Test.YtoeapcfnbomlgaaTr1
import Derived.Deep.RegionWith
import Derived.Deep.RegionLaw
namespace Go.Proofs.Ytoeapcfnbomlgaa
open Go.RowKit Go.Lib

attribute [local go_sem ↓] S_ld_id S_ld_cmd S_ld_rcmd S_ld_R S_st_cmd S_st_rcmd S_st_R S_st_tk S_al_cmd S_al_rcmd S_al_R S_eq_id S_ne_id S_bd_recv S_bd_send S_bd_cmd S_bd_rcmd S_bd_R S_bd_id
attribute [local go_sem] runS_ld_id runS_ld_cmd runS_ld_rcmd runS_ld_R runS_st_cmd runS_st_rcmd runS_st_R runS_st_tk runS_al_cmd runS_al_rcmd runS_al_R runS_eq_id runS_ne_id guard_id runS_bd_recv2 runS_bd_recv3 runS_bd_send runS_bd_cmd4 runS_bd_cmd2 runS_bd_cmd0 runS_bd_rcmd runS_bd_R runS_bd_one
attribute [local go_sem] isPtr_some addrOf_some aggAt_drew aggAt_drewN hasAt_drew hasAt_drewN aggAt_alloc_old hasAt_alloc_old aggAt_setCell hasAt_setCell aggAt_set_apart hasAt_set_apart aggAt_new hasAt_new canPut_new canPut_drew canPut_drewN canPut_setCell putAgg_new cells_agg isAggOf_mk
  isInt_mk isStr_mk isBool_mk intOf'_mk strOf_mk boolOf_mk isBytes_true bytesOf_mk toId_val kL_whole rL_whole cL_whole take_byteCells byteCells_len' byteCells_all
  vL_length cL_length kL_length rL_length sL_length cL_0 cL_35 cL_38 cL_id cL_all kL_0 kL_33 kL_34 kL_id kL_all rL_32 rL_33 rL_34 rL_id rL_all rL_set33 rL_set34 kL_set33 kL_set34 cL_g0 cL_g35 cL_g38 kL_g0 kL_g33 kL_g34 rL_g32 rL_g33 rL_g34


/-- What takers returns. -/
def tkL (b : Nat) : List Value := List.replicate 7 .nilFunc ++ [.func (.func 26) #[.pointer (some ⟨b, 0, none⟩)] #[], .func (.func 27) #[.pointer (some ⟨b, 0, none⟩)] #[]] ++ List.replicate 3 .nilFunc

theorem oneCell_func (f : Fn) (a c : Array Value) : (Value.func f a c).oneCell' = true := Eq.trans rfl rfl
theorem oneCell_nilFunc : Value.nilFunc.oneCell' = true := Eq.trans rfl rfl
attribute [local go_sem] oneCell_func oneCell_nilFunc

set_option maxHeartbeats 400000 in
theorem takers_any (b : Nat) (w : World) :
    Calls Try.prog 21 #[.pointer (some ⟨b, 0, none⟩)] w fun e w' => e = .returned (.agg (tkL b).toArray) ∧ Kept (fun _ => False) w w' := by
  go_enter Try.func21, Try.ntmps21
  go_wp2
  refine bodyPost_ret (results_cell_row rfl _ _ w.heap.size 65 (tkL b).toArray (0, 0) _ rfl (heap_alloc_new w _) Try.underlying65 (by kernel_rfl) (by kernel_rfl)) rfl ⟨rfl, ?_⟩
  exact (Kept.refl _ w).alloc _

set_option maxHeartbeats 400000 in
theorem data_seq {B b : Nat} {id : Id} {n : Int} {bs : List UInt8} {d : Bool} {g : Option Nat} {w : World} (h : Rcv B b id n bs d g w) {v : Int} {cid : Id} {fr : Int} {t : ByteArray} (hs : fr ≠ bs.length) :
    Calls Try.prog 26 #[.pointer (some ⟨b, 0, none⟩), .agg (cL v ⟨#[]⟩ cid 0 fr 0 0 t).toArray] w fun e w' => e = .returned (.int .i64 30) ∧ Kept (fun _ => False) w w' := by
  obtain ⟨lt, c32, c35, f35, agg, has⟩ := h.facts
  have hne : (fr != (bs.length : Int)) = true := by simp [hs]
  go_enter Try.func26, Try.ntmps26
  go_wp2
  go_quiet ((go_at_call 22; exact quiet_left (rcv_Len ((h.alloc _).drewN _))))
  go_wp2
  go_ret
  exact ⟨rfl, ((Kept.refl _ w).alloc _).drewN _⟩

set_option maxHeartbeats 400000 in
theorem data_long {B b : Nat} {id : Id} {n : Int} {bs : List UInt8} {d : Bool} {g : Option Nat} {w : World} (h : Rcv B b id n bs d g w) {v : Int} {cid : Id} {t : ByteArray} (h0 : 0 ≤ n) (h1 : n ≤ 65536) (h2 : bs.length ≤ 65536) (h3 : t.size ≤ 1000000) (hs : n - bs.length < t.size) :
    Calls Try.prog 26 #[.pointer (some ⟨b, 0, none⟩), .agg (cL v ⟨#[]⟩ cid 0 bs.length 0 0 t).toArray] w fun e w' => e = .returned (.int .i64 5) ∧ Kept (fun _ => False) w w' := by
  obtain ⟨lt, c32, c35, f35, agg, has⟩ := h.facts
  go_enter Try.func26, Try.ntmps26
  go_wp2
  go_quiet ((go_at_call 22; exact quiet_left (rcv_Len ((h.alloc _).drewN _))))
  go_wp2
  go_quiet ((go_at_call 22; exact quiet_add_left (rcv_Len ((h.alloc _).drewN _))))
  go_wp2
  go_ret
  exact ⟨rfl, (((Kept.refl _ w).alloc _).drewN _).drewN _⟩

theorem rcv_Write {B b : Nat} {id : Id} {n : Int} {bs : List UInt8} {d : Bool} {g : Option Nat} {w : World} (h : Rcv B b id n bs d g w) (t : ByteArray) (hlen : bs.length + t.size ≤ 140737488355328) (hBw : B ≤ w.heap.size) :
    Calls Try.prog 24 #[.pointer (some ⟨b, 33, none⟩), .string t] w fun e w' => e = .returned (.tuple #[.int .i64 t.size, .nilIface]) ∧
      ∃ g', Rcv B b id n (bs ++ t.data.toList) d g' w' ∧ Kept (fun k => k = b ∨ g = some k) w w' ∧ (g' = g ∨ ∀ k, g' = some k → w.heap.size ≤ k) := by
  obtain ⟨C, hB, hs, hi, h32, h35⟩ := h
  refine (bld_WriteString _ B b 33 C g _ t w (by rw [hs]; exact fits_recv) hB (by rw [byteCells_len]; exact hlen) hBw).mono ?_
  rintro e w' ⟨rfl, v, g', hB', hk, hg⟩
  rw [strCells_eq, ← byteCells_append] at hB'
  refine ⟨rfl, g', ⟨_, hB', by simpa using hs, ?_, ?_, ?_⟩, hk, hg⟩
  · rw [← hi]
    simp only [Array.toList_setIfInBounds]
    rw [List.take_set_of_le (by decide), List.take_set_of_le (by decide)]
  · rw [Array.getElem?_setIfInBounds_ne (by decide), Array.getElem?_setIfInBounds_ne (by decide)]; exact h32
  · rw [Array.getElem?_setIfInBounds_ne (by decide), Array.getElem?_setIfInBounds_ne (by decide)]; exact h35

set_option maxHeartbeats 400000 in
theorem data_ok {B b : Nat} {id : Id} {n : Int} {bs : List UInt8} {d : Bool} {g : Option Nat} {w : World} (h : Rcv B b id n bs d g w) {v : Int} {cid : Id} {t : ByteArray} (h0 : 0 ≤ n) (h1 : n ≤ 65536) (hs : (t.size : Int) ≤ n - bs.length) (hBw : B ≤ w.heap.size) :
    Calls Try.prog 26 #[.pointer (some ⟨b, 0, none⟩), .agg (cL v ⟨#[]⟩ cid 0 bs.length 0 0 t).toArray] w fun e w' => e = .returned (.int .i64 0) ∧
      ∃ g', Rcv B b id n (bs ++ t.data.toList) d g' w' ∧ Kept (fun k => k = b ∨ g = some k) w w' ∧ (g' = g ∨ ∀ k, g' = some k → w.heap.size ≤ k) := by
  obtain ⟨lt, c32, c35, f35, agg, has⟩ := h.facts
  go_enter Try.func26, Try.ntmps26
  go_wp2
  go_quiet ((go_at_call 22; exact quiet_left (rcv_Len ((h.alloc _).drewN _))))
  go_wp2
  go_quiet ((go_at_call 22; exact quiet_add_left (rcv_Len ((h.alloc _).drewN _))))
  go_wp2
  go_region_with (go_at_call 24; refine (rcv_Write ((h.alloc _).drewN _) t (by omega) (by simp; omega)).mono ?_; rintro e w' ⟨rfl, g', h', hk, hg⟩)
  all_goals (go_wp2; go_ret; exact ⟨rfl, g', h', ((((Kept.refl _ w).alloc _).drewN _).trans hk (fun _ _ f => f)), hg.imp (fun x => x) (fun x k hk => Nat.le_trans (by simp) (x k hk))⟩)

set_option maxHeartbeats 400000 in
theorem done_short {B b : Nat} {id : Id} {n : Int} {bs : List UInt8} {d : Bool} {g : Option Nat} {w : World} (h : Rcv B b id n bs d g w) {v : Int} {cid : Id} {fr : Int} {t : ByteArray} (hs : bs.length < n) :
    Calls Try.prog 27 #[.pointer (some ⟨b, 0, none⟩), .agg (cL v ⟨#[]⟩ cid 0 fr 0 0 t).toArray] w fun e w' => e = .returned (.int .i64 4) ∧ Kept (fun _ => False) w w' := by
  obtain ⟨lt, c32, c35, f35, agg, has⟩ := h.facts
  go_enter Try.func27, Try.ntmps27
  go_wp2
  go_quiet ((go_at_call 22; exact quiet_left (rcv_Len ((h.alloc _).drewN _))))
  go_wp2
  go_ret
  exact ⟨rfl, ((Kept.refl _ w).alloc _).drewN _⟩

theorem Rcv.finish {B b : Nat} {id : Id} {n : Int} {bs : List UInt8} {d : Bool} {g : Option Nat} {w : World} (h : Rcv B b id n bs d g w) (d' : Bool) : Rcv B b id n bs d' g (w.setCell ⟨b, 35, none⟩ (.bool d')) := by
  obtain ⟨C, hB, hs, hi, h32, h35⟩ := h
  refine ⟨_, hB.setOther (by decide) (i := 35) (by decide) (by decide) _, by simpa using hs, ?_, ?_, arr_get_set _ (by omega)⟩
  · rw [← hi, Array.toList_setIfInBounds, List.take_set_of_le (by decide)]
  · rw [Array.getElem?_setIfInBounds_ne (by decide)]; exact h32

set_option maxHeartbeats 400000 in
theorem done_ok {B b : Nat} {id : Id} {n : Int} {bs : List UInt8} {d : Bool} {g : Option Nat} {w : World} (h : Rcv B b id n bs d g w) {v : Int} {cid : Id} {fr : Int} {t : ByteArray} (hs : n ≤ bs.length) :
    Calls Try.prog 27 #[.pointer (some ⟨b, 0, none⟩), .agg (cL v ⟨#[]⟩ cid 0 fr 0 0 t).toArray] w fun e w' => e = .returned (.int .i64 0) ∧ Rcv B b id n bs true g w' ∧ Kept (fun k => k = b) w w' := by
  obtain ⟨lt, c32, c35, f35, agg, has⟩ := h.facts
  have H := Lib.hid h
  go_enter Try.func27, Try.ntmps27
  go_wp2
  go_quiet ((go_at_call 22; exact quiet_left (rcv_Len ((h.alloc _).drewN _))))
  clear h
  go_wp2
  go_ret
  exact ⟨rfl, ((H.out.alloc _).drewN _).finish true, (((Kept.refl (fun k => k = b) w).alloc _).drewN _).setCell (p := ⟨b, 35, none⟩) (fun _ => rfl) _⟩

/-! ### Hear -/
theorem eq_func_nil (w : World) (f : Fn) (a c : Array Value) : (binOp .eql 32 (.func f a c) .nilFunc).run Try.prog w = .ok (.bool false) w := by
  have h : ∀ d : Nat, (Op.equalIn (d + 1) 32 (.func f a c) .nilFunc).run Try.prog w = .ok false w := fun d => by
    simp [Op.equalIn, run_underlying Try.underlying32]
  simp only [binOp]
  simp [Op.equal, Op.maxDepth, h 9999]
theorem eq_nil_nil (w : World) : (binOp .eql 32 .nilFunc .nilFunc).run Try.prog w = .ok (.bool true) w := by
  have h : ∀ d : Nat, (Op.equalIn (d + 1) 32 .nilFunc .nilFunc).run Try.prog w = .ok true w := fun d => by
    simp [Op.equalIn, run_underlying Try.underlying32]
  simp only [binOp]
  simp [Op.equal, Op.maxDepth, h 9999]
attribute [local go_sem] eq_func_nil eq_nil_nil
theorem tkL_length (b : Nat) : (tkL b).length = 12 := Eq.trans rfl rfl
theorem tkL_all (b : Nat) : (tkL b).all (·.oneCell') = true := Eq.trans rfl rfl
theorem tkL_7 (b : Nat) : (tkL b)[7]? = some (.func (.func 26) #[.pointer (some ⟨b, 0, none⟩)] #[]) := Eq.trans rfl rfl
theorem tkL_8 (b : Nat) : (tkL b)[8]? = some (.func (.func 27) #[.pointer (some ⟨b, 0, none⟩)] #[]) := Eq.trans rfl rfl
theorem tkL_g7 (b : Nat) (h : 7 < (tkL b).length) : (tkL b)[7]'h = .func (.func 26) #[.pointer (some ⟨b, 0, none⟩)] #[] := Eq.trans rfl rfl
theorem tkL_g8 (b : Nat) (h : 8 < (tkL b).length) : (tkL b)[8]'h = .func (.func 27) #[.pointer (some ⟨b, 0, none⟩)] #[] := Eq.trans rfl rfl
theorem tkL_nil (b k : Nat) (hk : k < 12) (h7 : k ≠ 7) (h8 : k ≠ 8) : (tkL b)[k]? = some .nilFunc := by
  match k, hk with
  | 0, _ | 1, _ | 2, _ | 3, _ | 4, _ | 5, _ | 6, _ | 9, _ | 10, _ | 11, _ => rfl
  | 7, _ => exact absurd rfl h7
  | 8, _ => exact absurd rfl h8
attribute [local go_sem] tkL_length tkL_all tkL_7 tkL_8 tkL_g7 tkL_g8

/-- A command in block b. -/
structure CmdAt (b : Nat) (v : Int) (cid : Id) (fr : Int) (t : ByteArray) (w : World) : Prop where
  lt : b < w.heap.size
  c0 : w.cell? ⟨b, 0, none⟩ = some (.int .i64 v)
  agg2 : aggAt w ⟨b, 2, none⟩ 32 = byteCells cid.1
  has2 : hasAt w ⟨b, 2, none⟩ 32
  agg0 : aggAt w ⟨b, 0, none⟩ 39 = cL v ⟨#[]⟩ cid 0 fr 0 0 t
  has0 : hasAt w ⟨b, 0, none⟩ 39
theorem cmdAt_of {b : Nat} {v : Int} {cid : Id} {fr : Int} {t : ByteArray} {w : World} (h : w.heap[b]? = some (.cells (cL v ⟨#[]⟩ cid 0 fr 0 0 t).toArray 34 (0, 0))) : CmdAt b v cid fr t w :=
  ⟨(Array.getElem?_eq_some_iff.1 h).1, by rw [Lib.cell_of_heap h]; rfl,
   (aggAt_of h 2 32 (by rw [List.size_toArray, cL_length]; decide)).trans cL_id, hasAt_of h 2 32 (by rw [List.size_toArray, cL_length]; decide),
   (aggAt_of h 0 39 (by rw [List.size_toArray, cL_length]; decide)).trans (cL_whole v ⟨#[]⟩ cid 0 fr 0 0 t), hasAt_of h 0 39 (by rw [List.size_toArray, cL_length]; decide)⟩

set_option maxHeartbeats 400000 in
theorem hear_state {B b : Nat} {id : Id} {n : Int} {bs : List UInt8} {g : Option Nat} {w : World} (h : Rcv B b id n bs true g w) {v : Int} {cid : Id} {fr : Int} {t : ByteArray} :
    Calls Try.prog 8 #[.pointer (some ⟨b, 0, none⟩), .agg (cL v ⟨#[]⟩ cid 0 fr 0 0 t).toArray] w fun e w' => e = .returned (.int .i64 10) ∧ Kept (fun _ => False) w w' := by
  obtain ⟨lt, c32, c35, f35, agg, has⟩ := h.facts
  clear h
  go_enter Try.func8, Try.ntmps8
  go_wp2
  go_ret
  exact ⟨rfl, (Kept.refl _ w).alloc _⟩

set_option maxHeartbeats 400000 in
theorem hear_kind1 {B b : Nat} {id : Id} {n : Int} {bs : List UInt8} {g : Option Nat} {w : World} (h : Rcv B b id n bs false g w) {v : Int} {cid : Id} {fr : Int} {t : ByteArray} (hv : v < 0) :
    Calls Try.prog 8 #[.pointer (some ⟨b, 0, none⟩), .agg (cL v ⟨#[]⟩ cid 0 fr 0 0 t).toArray] w fun e w' => e = .returned (.int .i64 11) ∧ Kept (fun _ => False) w w' := by
  obtain ⟨lt, c32, c35, f35, agg, has⟩ := h.facts
  clear h
  go_enter Try.func8, Try.ntmps8
  go_wp2_with (go_at_call 21; refine (takers_any b _).mono ?_; rintro e w1 ⟨rfl, hk⟩; obtain ⟨clt, c0, agg2, has2, agg0, has0⟩ := cmdAt_of (hk.heap (heap_alloc_new w _) (fun f => f)); have HK := Lib.hid hk; clear hk)
  go_ret
  exact ⟨rfl, (((Kept.refl _ w).alloc _).trans HK.out (fun _ _ f => f)).alloc _⟩

set_option maxHeartbeats 400000 in
theorem hear_kind2 {B b : Nat} {id : Id} {n : Int} {bs : List UInt8} {g : Option Nat} {w : World} (h : Rcv B b id n bs false g w) {v : Int} {cid : Id} {fr : Int} {t : ByteArray} (hv : 12 ≤ v) :
    Calls Try.prog 8 #[.pointer (some ⟨b, 0, none⟩), .agg (cL v ⟨#[]⟩ cid 0 fr 0 0 t).toArray] w fun e w' => e = .returned (.int .i64 11) ∧ Kept (fun _ => False) w w' := by
  obtain ⟨lt, c32, c35, f35, agg, has⟩ := h.facts
  clear h
  go_enter Try.func8, Try.ntmps8
  go_wp2_with (go_at_call 21; refine (takers_any b _).mono ?_; rintro e w1 ⟨rfl, hk⟩; obtain ⟨clt, c0, agg2, has2, agg0, has0⟩ := cmdAt_of (hk.heap (heap_alloc_new w _) (fun f => f)); have HK := Lib.hid hk; clear hk)
  go_ret
  exact ⟨rfl, (((Kept.refl _ w).alloc _).trans HK.out (fun _ _ f => f)).alloc _⟩

set_option maxHeartbeats 400000 in
theorem hear_kind3 {B b : Nat} {id : Id} {n : Int} {bs : List UInt8} {g : Option Nat} {w : World} (h : Rcv B b id n bs false g w) {v : Int} {cid : Id} {fr : Int} {t : ByteArray} (hv0 : 0 ≤ v) (hv1 : v < 12) (hv7 : v ≠ 7) (hv8 : v ≠ 8) :
    Calls Try.prog 8 #[.pointer (some ⟨b, 0, none⟩), .agg (cL v ⟨#[]⟩ cid 0 fr 0 0 t).toArray] w fun e w' => e = .returned (.int .i64 11) ∧ Kept (fun _ => False) w w' := by
  obtain ⟨lt, c32, c35, f35, agg, has⟩ := h.facts
  clear h
  have hc := tkL_nil b v.toNat (by omega) (by omega) (by omega)
  have hg : ∀ h : v.toNat < (tkL b).length, (tkL b)[v.toNat]'h = .nilFunc := fun h => by rw [List.getElem?_eq_getElem h] at hc; exact Option.some.inj hc
  go_enter Try.func8, Try.ntmps8
  go_wp2_with (go_at_call 21; refine (takers_any b _).mono ?_; rintro e w1 ⟨rfl, hk⟩; obtain ⟨clt, c0, agg2, has2, agg0, has0⟩ := cmdAt_of (hk.heap (heap_alloc_new w _) (fun f => f)); have HK := Lib.hid hk; clear hk)
  go_ret
  exact ⟨rfl, (((Kept.refl _ w).alloc _).trans HK.out (fun _ _ f => f)).alloc _⟩

set_option maxHeartbeats 1000000 in
theorem hear_not7 {B b : Nat} {id : Id} {n : Int} {bs : List UInt8} {g : Option Nat} {w : World} (h : Rcv B b id n bs false g w) {cid : Id} {fr : Int} {t : ByteArray} (hid : (cid.1 == id.1) = false) :
    Calls Try.prog 8 #[.pointer (some ⟨b, 0, none⟩), .agg (cL 7 ⟨#[]⟩ cid 0 fr 0 0 t).toArray] w fun e w' => e = .returned (.int .i64 8) ∧ Kept (fun _ => False) w w' := by
  obtain ⟨lt, c32, c35, f35, agg, has⟩ := h.facts
  go_enter Try.func8, Try.ntmps8
  go_wp2_with (go_at_call 21; refine (takers_any b _).mono ?_; rintro e w1 ⟨rfl, hk⟩; obtain ⟨clt, c0, agg2, has2, agg0, has0⟩ := cmdAt_of (hk.heap (heap_alloc_new w _) (fun f => f)); have lt1 : b < w1.heap.size := Nat.lt_trans lt (Nat.lt_of_lt_of_le (by simp) hk.size); have hR := (h.alloc (.cells (cL 7 ⟨#[]⟩ cid 0 fr 0 0 t).toArray 34)).kept hk (fun f => f) (fun _ _ f => f); obtain ⟨_, _, d35, e35, agg', has'⟩ := hR.facts; have HR := Lib.hid hR; have HK := Lib.hid hk; clear hk hR h)
  go_region
  go_wp2
  go_ret
  exact ⟨rfl, ((((Kept.refl _ w).alloc _).trans HK.out (fun _ _ f => f)).alloc _).drew⟩

set_option maxHeartbeats 1000000 in
theorem hear_not8 {B b : Nat} {id : Id} {n : Int} {bs : List UInt8} {g : Option Nat} {w : World} (h : Rcv B b id n bs false g w) {cid : Id} {fr : Int} {t : ByteArray} (hid : (cid.1 == id.1) = false) :
    Calls Try.prog 8 #[.pointer (some ⟨b, 0, none⟩), .agg (cL 8 ⟨#[]⟩ cid 0 fr 0 0 t).toArray] w fun e w' => e = .returned (.int .i64 8) ∧ Kept (fun _ => False) w w' := by
  obtain ⟨lt, c32, c35, f35, agg, has⟩ := h.facts
  go_enter Try.func8, Try.ntmps8
  go_wp2_with (go_at_call 21; refine (takers_any b _).mono ?_; rintro e w1 ⟨rfl, hk⟩; obtain ⟨clt, c0, agg2, has2, agg0, has0⟩ := cmdAt_of (hk.heap (heap_alloc_new w _) (fun f => f)); have lt1 : b < w1.heap.size := Nat.lt_trans lt (Nat.lt_of_lt_of_le (by simp) hk.size); have hR := (h.alloc (.cells (cL 8 ⟨#[]⟩ cid 0 fr 0 0 t).toArray 34)).kept hk (fun f => f) (fun _ _ f => f); obtain ⟨_, _, d35, e35, agg', has'⟩ := hR.facts; have HR := Lib.hid hR; have HK := Lib.hid hk; clear hk hR h)
  go_region
  go_wp2
  go_ret
  exact ⟨rfl, ((((Kept.refl _ w).alloc _).trans HK.out (fun _ _ f => f)).alloc _).drew⟩

set_option maxHeartbeats 1000000 in
theorem hear_short {B b : Nat} {id : Id} {n : Int} {bs : List UInt8} {g : Option Nat} {w : World} (h : Rcv B b id n bs false g w) {cid : Id} {fr : Int} {t : ByteArray} (hid : (cid.1 == id.1) = true) (hs : bs.length < n) :
    Calls Try.prog 8 #[.pointer (some ⟨b, 0, none⟩), .agg (cL 8 ⟨#[]⟩ cid 0 fr 0 0 t).toArray] w fun e w' => e = .returned (.int .i64 4) ∧ Kept (fun _ => False) w w' := by
  obtain ⟨lt, c32, c35, f35, agg, has⟩ := h.facts
  go_enter Try.func8, Try.ntmps8
  go_wp2_with (go_at_call 21; refine (takers_any b _).mono ?_; rintro e w1 ⟨rfl, hk⟩; obtain ⟨clt, c0, agg2, has2, agg0, has0⟩ := cmdAt_of (hk.heap (heap_alloc_new w _) (fun f => f)); have lt1 : b < w1.heap.size := Nat.lt_trans lt (Nat.lt_of_lt_of_le (by simp) hk.size); have hR := (h.alloc (.cells (cL 8 ⟨#[]⟩ cid 0 fr 0 0 t).toArray 34)).kept hk (fun f => f) (fun _ _ f => f); obtain ⟨_, _, d35, e35, agg', has'⟩ := hR.facts; have HR := Lib.hid hR; have HK := Lib.hid hk; clear hk hR)
  go_region
  go_wp2
  have h2 := (HR.out.alloc (.cells (tkL b).toArray 65)).drewN 1
  go_region_law (go_simp; go_at_call 27; refine (done_short (h2.drewN 1) hs).mono ?_; rintro e w2 ⟨rfl, hk2⟩)
  all_goals (go_wp2; go_ret; exact ⟨rfl, (((((Kept.refl (fun _ => False) w).alloc _).trans HK.out (fun _ _ f => f)).alloc _).drewN 2).trans hk2 (fun _ _ f => f)⟩)

set_option maxHeartbeats 1000000 in
theorem hear_done {B b : Nat} {id : Id} {n : Int} {bs : List UInt8} {g : Option Nat} {w : World} (h : Rcv B b id n bs false g w) {cid : Id} {fr : Int} {t : ByteArray} (hid : (cid.1 == id.1) = true) (hs : n ≤ bs.length) :
    Calls Try.prog 8 #[.pointer (some ⟨b, 0, none⟩), .agg (cL 8 ⟨#[]⟩ cid 0 fr 0 0 t).toArray] w fun e w' => e = .returned (.int .i64 0) ∧ Rcv B b id n bs true g w' ∧ Kept (fun k => k = b) w w' := by
  obtain ⟨lt, c32, c35, f35, agg, has⟩ := h.facts
  go_enter Try.func8, Try.ntmps8
  go_wp2_with (go_at_call 21; refine (takers_any b _).mono ?_; rintro e w1 ⟨rfl, hk⟩; obtain ⟨clt, c0, agg2, has2, agg0, has0⟩ := cmdAt_of (hk.heap (heap_alloc_new w _) (fun f => f)); have lt1 : b < w1.heap.size := Nat.lt_trans lt (Nat.lt_of_lt_of_le (by simp) hk.size); have hR := (h.alloc (.cells (cL 8 ⟨#[]⟩ cid 0 fr 0 0 t).toArray 34)).kept hk (fun f => f) (fun _ _ f => f); obtain ⟨_, _, d35, e35, agg', has'⟩ := hR.facts; have HR := Lib.hid hR; have HK := Lib.hid hk; clear hk hR)
  go_region
  go_wp2
  have h2 := (HR.out.alloc (.cells (tkL b).toArray 65)).drewN 1
  go_region_law (go_simp; go_at_call 27; refine (done_ok (h2.drewN 1) hs).mono ?_; rintro e w2 ⟨rfl, hR2, hk2⟩)
  all_goals (go_wp2; go_ret; exact ⟨rfl, hR2, ((((((Kept.refl (fun _ => False) w).alloc _).trans HK.out (fun _ _ f => f)).alloc _).drewN 2).mono (fun _ _ f => f.elim)).trans hk2 (fun _ _ f => f)⟩)

end Go.Proofs.Ytoeapcfnbomlgaa
