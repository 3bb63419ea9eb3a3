/- Contracts of package transfer's Receiver over this translation: Hear at Data, Clone, Equal; the reference's Hear.
   Conditions: as each contract states them. -/
import Derived.Test.YtoeapcfnbomlgaaTr2
namespace Go.Proofs.Ytoeapcfnbomlgaa
open Go.RowKit Go.Lib

attribute [local go_sem ↓] S_ld_id S_ld_cmd S_ld_rcmd S_ld_R S_st_cmd S_st_rcmd S_st_R S_st_tk S_al_cmd S_al_rcmd S_al_R S_eq_id S_ne_id S_bd_recv S_bd_send S_bd_cmd S_bd_rcmd S_bd_R S_bd_id
attribute [local go_sem] runS_ld_id runS_ld_cmd runS_ld_rcmd runS_ld_R runS_st_cmd runS_st_rcmd runS_st_R runS_st_tk runS_al_cmd runS_al_rcmd runS_al_R runS_eq_id runS_ne_id guard_id runS_bd_recv2 runS_bd_recv3 runS_bd_send runS_bd_cmd4 runS_bd_cmd2 runS_bd_cmd0 runS_bd_rcmd runS_bd_R runS_bd_one
attribute [local go_sem] isPtr_some addrOf_some aggAt_drew aggAt_drewN hasAt_drew hasAt_drewN aggAt_alloc_old hasAt_alloc_old aggAt_setCell hasAt_setCell aggAt_set_apart hasAt_set_apart aggAt_new hasAt_new canPut_new canPut_drew canPut_drewN canPut_setCell putAgg_new cells_agg isAggOf_mk
  isInt_mk isStr_mk isBool_mk intOf'_mk strOf_mk boolOf_mk isBytes_true bytesOf_mk toId_val kL_whole rL_whole cL_whole take_byteCells byteCells_len' byteCells_all
  vL_length cL_length kL_length rL_length sL_length cL_0 cL_35 cL_38 cL_id cL_all kL_0 kL_33 kL_34 kL_id kL_all rL_32 rL_33 rL_34 rL_id rL_all rL_set33 rL_set34 kL_set33 kL_set34 cL_g0 cL_g35 cL_g38 kL_g0 kL_g33 kL_g34 rL_g32 rL_g33 rL_g34

attribute [local go_sem] oneCell_func oneCell_nilFunc eq_func_nil eq_nil_nil tkL_length tkL_all tkL_7 tkL_8 tkL_g7 tkL_g8

set_option maxHeartbeats 1000000 in
theorem hear_seq {B b : Nat} {id : Id} {n : Int} {bs : List UInt8} {g : Option Nat} {w : World} (h : Rcv B b id n bs false g w) {cid : Id} {fr : Int} {t : ByteArray} (hid : (cid.1 == id.1) = true) (hs : fr ≠ bs.length) :
    Calls Try.prog 8 #[.pointer (some ⟨b, 0, none⟩), .agg (cL 7 ⟨#[]⟩ cid 0 fr 0 0 t).toArray] w fun e w' => e = .returned (.int .i64 30) ∧ Kept (fun _ => False) w w' := by
  obtain ⟨lt, c32, c35, f35, agg, has⟩ := h.facts
  go_enter Try.func8, Try.ntmps8
  go_wp2_with (go_at_call 21; refine (takers_any b _).mono ?_; rintro e w1 ⟨rfl, hk⟩; obtain ⟨clt, c0, agg2, has2, agg0, has0⟩ := cmdAt_of (hk.heap (heap_alloc_new w _) (fun f => f)); have lt1 : b < w1.heap.size := Nat.lt_trans lt (Nat.lt_of_lt_of_le (by simp) hk.size); have hR := (h.alloc (.cells (cL 7 ⟨#[]⟩ cid 0 fr 0 0 t).toArray 34)).kept hk (fun f => f) (fun _ _ f => f); obtain ⟨_, _, d35, e35, agg', has'⟩ := hR.facts; have HR := Lib.hid hR; have HK := Lib.hid hk; clear hk hR)
  go_region
  go_wp2
  have h2 := (HR.out.alloc (.cells (tkL b).toArray 65)).drewN 1
  go_region_law (go_simp; go_at_call 26; refine (data_seq (h2.drewN 1) hs).mono ?_; rintro e w2 ⟨rfl, hk2⟩)
  all_goals (go_wp2; go_ret; exact ⟨rfl, (((((Kept.refl (fun _ => False) w).alloc _).trans HK.out (fun _ _ f => f)).alloc _).drewN 2).trans hk2 (fun _ _ f => f)⟩)

set_option maxHeartbeats 1000000 in
theorem hear_long {B b : Nat} {id : Id} {n : Int} {bs : List UInt8} {g : Option Nat} {w : World} (h : Rcv B b id n bs false g w) {cid : Id} {t : ByteArray} (hid : (cid.1 == id.1) = true) (h0 : 0 ≤ n) (h1 : n ≤ 65536) (hl : bs.length ≤ 65536) (ht : t.size ≤ 1000000) (hs : n - bs.length < t.size) :
    Calls Try.prog 8 #[.pointer (some ⟨b, 0, none⟩), .agg (cL 7 ⟨#[]⟩ cid 0 bs.length 0 0 t).toArray] w fun e w' => e = .returned (.int .i64 5) ∧ Kept (fun _ => False) w w' := by
  obtain ⟨lt, c32, c35, f35, agg, has⟩ := h.facts
  go_enter Try.func8, Try.ntmps8
  go_wp2_with (go_at_call 21; refine (takers_any b _).mono ?_; rintro e w1 ⟨rfl, hk⟩; obtain ⟨clt, c0, agg2, has2, agg0, has0⟩ := cmdAt_of (hk.heap (heap_alloc_new w _) (fun f => f)); have lt1 : b < w1.heap.size := Nat.lt_trans lt (Nat.lt_of_lt_of_le (by simp) hk.size); have hR := (h.alloc (.cells (cL 7 ⟨#[]⟩ cid 0 bs.length 0 0 t).toArray 34)).kept hk (fun f => f) (fun _ _ f => f); obtain ⟨_, _, d35, e35, agg', has'⟩ := hR.facts; have HR := Lib.hid hR; have HK := Lib.hid hk; clear hk hR)
  go_region
  go_wp2
  have h2 := (HR.out.alloc (.cells (tkL b).toArray 65)).drewN 1
  go_region_law (go_simp; go_at_call 26; refine (data_long (h2.drewN 1) h0 h1 hl ht hs).mono ?_; rintro e w2 ⟨rfl, hk2⟩)
  all_goals (go_wp2; go_ret; exact ⟨rfl, (((((Kept.refl (fun _ => False) w).alloc _).trans HK.out (fun _ _ f => f)).alloc _).drewN 2).trans hk2 (fun _ _ f => f)⟩)

set_option maxHeartbeats 1000000 in
theorem hear_data {B b : Nat} {id : Id} {n : Int} {bs : List UInt8} {g : Option Nat} {w : World} (h : Rcv B b id n bs false g w) {cid : Id} {t : ByteArray} (hid : (cid.1 == id.1) = true) (h0 : 0 ≤ n) (h1 : n ≤ 65536) (hs : (t.size : Int) ≤ n - bs.length) (hBw : B ≤ w.heap.size) :
    Calls Try.prog 8 #[.pointer (some ⟨b, 0, none⟩), .agg (cL 7 ⟨#[]⟩ cid 0 bs.length 0 0 t).toArray] w fun e w' => e = .returned (.int .i64 0) ∧ ∃ g', Rcv B b id n (bs ++ t.data.toList) false g' w' ∧ Kept (fun k => k = b ∨ g = some k) w w' ∧ (g' = g ∨ ∀ k, g' = some k → w.heap.size ≤ k) := by
  obtain ⟨lt, c32, c35, f35, agg, has⟩ := h.facts
  go_enter Try.func8, Try.ntmps8
  go_wp2_with (go_at_call 21; refine (takers_any b _).mono ?_; rintro e w1 ⟨rfl, hk⟩; obtain ⟨clt, c0, agg2, has2, agg0, has0⟩ := cmdAt_of (hk.heap (heap_alloc_new w _) (fun f => f)); have lt1 : b < w1.heap.size := Nat.lt_trans lt (Nat.lt_of_lt_of_le (by simp) hk.size); have hR := (h.alloc (.cells (cL 7 ⟨#[]⟩ cid 0 bs.length 0 0 t).toArray 34)).kept hk (fun f => f) (fun _ _ f => f); obtain ⟨_, _, d35, e35, agg', has'⟩ := hR.facts; have HR := Lib.hid hR; have HK := Lib.hid hk; clear hk hR)
  go_region
  go_wp2
  have h2 := (HR.out.alloc (.cells (tkL b).toArray 65)).drewN 1
  go_region_law (go_simp; go_at_call 26; refine (data_ok (h2.drewN 1) h0 h1 hs (by have := HK.out.size; simp at this ⊢; omega)).mono ?_; rintro e w2 ⟨rfl, g', hR2, hk2, hg⟩)
  all_goals (go_wp2; go_ret; exact ⟨rfl, g', hR2, ((((((Kept.refl (fun _ => False) w).alloc _).trans HK.out (fun _ _ f => f)).alloc _).drewN 2).mono (fun _ _ f => f.elim)).trans hk2 (fun _ _ f => f), hg.imp (fun x => x) (fun x k hk => Nat.le_trans (by have := HK.out.size; simp at this ⊢; omega) (x k hk))⟩)


/-- What a receiver is behind a command, and the error: bulletinref32.Hear on lists of bytes. -/
def hearS (id : Id) (n : Int) (bs : List UInt8) (d : Bool) (v : Int) (cid : Id) (fr : Int) (t : ByteArray) : (List UInt8 × Bool) × Int :=
  if d = true then ((bs, d), 10) else if v ≠ 7 ∧ v ≠ 8 then ((bs, d), 11) else if (cid.1 == id.1) = false then ((bs, d), 8) else
  if v = 8 then (if bs.length < n then ((bs, d), 4) else ((bs, true), 0)) else
  if fr ≠ bs.length then ((bs, d), 30) else if n < bs.length + t.size then ((bs, d), 5) else ((bs ++ t.data.toList, d), 0)

theorem hear_any {B b : Nat} {id : Id} {n : Int} {bs : List UInt8} {d : Bool} {g : Option Nat} {w : World} (h : Rcv B b id n bs d g w) {v : Int} {cid : Id} {fr : Int} {t : ByteArray}
    (h0 : 0 ≤ n) (h1 : n ≤ 65536) (hl : bs.length ≤ n) (ht : t.size ≤ 1000000) (hBw : B ≤ w.heap.size) :
    Calls Try.prog 8 #[.pointer (some ⟨b, 0, none⟩), .agg (cL v ⟨#[]⟩ cid 0 fr 0 0 t).toArray] w fun e w' =>
      e = .returned (.int .i64 (hearS id n bs d v cid fr t).2) ∧ ∃ g', Rcv B b id n (hearS id n bs d v cid fr t).1.1 (hearS id n bs d v cid fr t).1.2 g' w' ∧
        Kept (fun k => k = b ∨ g = some k) w w' ∧ (g' = g ∨ ∀ k, g' = some k → w.heap.size ≤ k) := by
  have same : ∀ {e : Ending} {w' : World} {x : Int}, e = .returned (.int .i64 x) ∧ Kept (fun _ => False) w w' → e = .returned (.int .i64 x) ∧ ∃ g', Rcv B b id n bs d g' w' ∧ Kept (fun k => k = b ∨ g = some k) w w' ∧ (g' = g ∨ ∀ k, g' = some k → w.heap.size ≤ k) :=
    fun ⟨he, hk⟩ => ⟨he, g, h.kept hk (fun f => f) (fun _ _ f => f), hk.mono (fun _ _ f => f.elim), .inl rfl⟩
  unfold hearS
  by_cases hd : d = true
  · subst hd
    simp only [if_true]
    exact (hear_state h).mono fun e w' hh => same hh
  · have hd' : d = false := by simpa using hd
    subst hd'
    rw [if_neg hd]
    by_cases hv : v ≠ 7 ∧ v ≠ 8
    · rw [if_pos hv]
      by_cases hv0 : v < 0
      · exact (hear_kind1 h hv0).mono fun e w' hh => same hh
      · by_cases hv1 : 12 ≤ v
        · exact (hear_kind2 h hv1).mono fun e w' hh => same hh
        · exact (hear_kind3 h (by omega) (by omega) hv.1 hv.2).mono fun e w' hh => same hh
    · rw [if_neg hv]
      have hv' : v = 7 ∨ v = 8 := by omega
      by_cases hid : (cid.1 == id.1) = false
      · rw [if_pos hid]
        rcases hv' with rfl | rfl
        · exact (hear_not7 h hid).mono fun e w' hh => same hh
        · exact (hear_not8 h hid).mono fun e w' hh => same hh
      · rw [if_neg hid]
        have hid' : (cid.1 == id.1) = true := by simpa using hid
        rcases hv' with rfl | rfl
        · rw [if_neg (by decide)]
          by_cases hf : fr ≠ bs.length
          · rw [if_pos hf]
            exact (hear_seq h hid' hf).mono fun e w' hh => same hh
          · have hf' : fr = bs.length := by omega
            subst hf'
            rw [if_neg hf]
            by_cases hn : n < bs.length + t.size
            · rw [if_pos hn]
              exact (hear_long h hid' h0 h1 (by omega) ht (by omega)).mono fun e w' hh => same hh
            · rw [if_neg hn]
              exact hear_data h hid' h0 h1 (by omega) hBw
        · rw [if_pos rfl]
          by_cases hn : (bs.length : Int) < n
          · rw [if_pos hn]
            exact (hear_short h hid' hn).mono fun e w' hh => same hh
          · rw [if_neg hn]
            exact (hear_done h hid' (by omega)).mono fun e w' ⟨he, hR, hk⟩ => ⟨he, g, hR, hk.mono (fun _ _ f => .inl f), .inl rfl⟩

/-- A new receiver. -/
theorem Rcv.new (w : World) (B : Nat) (id : Id) (n : Int) (hB : B ≤ w.heap.size) : Rcv B w.heap.size id n [] false none (w.alloc (.cells (vL id n (.pointer none) (.slice none 0 0) false).toArray 64)) := by
  refine ⟨_, ⟨hB, heap_alloc_new w _, .inl ?_, _, ?_, World.ownsRowF_nil _ _ _ _, rfl⟩, by rw [List.size_toArray, vL_length], ?_, ?_, ?_⟩
  · simp [vL, byteCells, List.getElem?_append, id.2]
  · simp [vL, byteCells, List.getElem?_append, id.2]
  · simp [vL, byteCells, List.take_append, id.2]
  · simp [vL, byteCells, List.getElem?_append, id.2]
  · simp [vL, byteCells, List.getElem?_append, id.2]
theorem newReceiver_ok (B : Nat) (id : Id) (n : Int) (w : World) (h0 : 0 ≤ n) (h1 : n ≤ 65536) (hB : B ≤ w.heap.size) :
    Calls Try.prog 7 #[.agg (byteCells id.1).toArray, .int .i64 n] w fun e w' => e = .returned (.tuple #[.pointer (some ⟨w.heap.size + 1, 0, none⟩), .int .i64 0]) ∧
      Rcv B (w.heap.size + 1) id n [] false none w' ∧ Kept (fun _ => False) w w' := by
  refine (newReceiver_any id n w h0 h1).mono ?_
  rintro e w' ⟨rfl, rfl⟩
  refine ⟨rfl, ?_, ((Kept.refl _ w).alloc _).alloc _⟩
  have := Rcv.new (w.alloc (.cells (byteCells id.1).toArray 23)) B id n (by simp; omega)
  rwa [World.size_alloc] at this
end Go.Proofs.Ytoeapcfnbomlgaa
