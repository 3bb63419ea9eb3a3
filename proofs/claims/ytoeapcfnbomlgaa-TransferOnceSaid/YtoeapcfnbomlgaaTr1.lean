/- Contracts of the small functions of package transfer over this translation.
   Conditions: as each contract states them. -/
import Derived.Test.YtoeapcfnbomlgaaTrA
import Derived.StillTailTactics
namespace Go.Proofs.Ytoeapcfnbomlgaa
open Go.RowKit Go.Lib

attribute [local go_sem ↓] S_ld_id S_ld_cmd S_ld_rcmd S_ld_R S_st_cmd S_st_rcmd S_st_R S_st_tk S_al_cmd S_al_rcmd S_al_R S_eq_id S_ne_id S_bd_recv S_bd_send S_bd_cmd S_bd_rcmd S_bd_R S_bd_id
attribute [local go_sem] runS_ld_id runS_ld_cmd runS_ld_rcmd runS_ld_R runS_st_cmd runS_st_rcmd runS_st_R runS_st_tk runS_al_cmd runS_al_rcmd runS_al_R runS_eq_id runS_ne_id guard_id runS_bd_recv2 runS_bd_recv3 runS_bd_send runS_bd_cmd4 runS_bd_cmd2 runS_bd_cmd0 runS_bd_rcmd runS_bd_R runS_bd_one
attribute [local go_sem] isPtr_some addrOf_some aggAt_drew aggAt_drewN hasAt_drew hasAt_drewN aggAt_alloc_old hasAt_alloc_old aggAt_setCell hasAt_setCell aggAt_set_apart hasAt_set_apart aggAt_new hasAt_new canPut_new canPut_drew canPut_drewN canPut_setCell putAgg_new cells_agg isAggOf_mk
  isInt_mk isStr_mk isBool_mk intOf'_mk strOf_mk boolOf_mk isBytes_true bytesOf_mk toId_val kL_whole rL_whole cL_whole take_byteCells byteCells_len' byteCells_all
  vL_length cL_length kL_length rL_length sL_length cL_0 cL_35 cL_38 cL_id cL_all kL_0 kL_33 kL_34 kL_id kL_all rL_32 rL_33 rL_34 rL_id rL_all rL_set33 rL_set34 kL_set33 kL_set34 cL_g0 cL_g35 cL_g38 kL_g0 kL_g33 kL_g34 rL_g32 rL_g33 rL_g34

set_option maxHeartbeats 400000 in
theorem newReceiver_any (id : Id) (n : Int) (w : World) (h0 : 0 ≤ n) (h1 : n ≤ 65536) :
    Calls Try.prog 7 #[.agg (byteCells id.1).toArray, .int .i64 n] w fun e w' => e = .returned (.tuple #[.pointer (some ⟨w.heap.size + 1, 0, none⟩), .int .i64 0]) ∧
      (w.alloc (.cells (byteCells id.1).toArray 23)).alloc (.cells (vL id n (.pointer none) (.slice none 0 0) false).toArray 64) = w' := by
  go_enter Try.func7, Try.ntmps7
  go_wp2
  go_ret2
  exact ⟨rfl, rfl⟩
/-- A receiver in block b: its identity, size, bytes and whether it is complete; g: its buffer's block. -/
def Rcv (B b : Nat) (id : Id) (n : Int) (bs : List UInt8) (d : Bool) (g : Option Nat) (w : World) : Prop :=
  ∃ C, Bld 64 B b 33 C g (byteCells bs) w ∧ C.size = 36 ∧ C.toList.take 32 = byteCells id.1 ∧ C[32]? = some (.int .i64 n) ∧ C[35]? = some (.bool d)
theorem fits_recv : Fits 64 36 33 := ⟨by decide, by kernel_rfl⟩
structure RcvFacts (b : Nat) (id : Id) (n : Int) (d : Bool) (w : World) : Prop where
  lt : b < w.heap.size
  c32 : w.cell? ⟨b, 32, none⟩ = some (.int .i64 n)
  c35 : w.cell? ⟨b, 35, none⟩ = some (.bool d)
  f35 : w.frozen? ⟨b, 35, none⟩ = false
  agg : aggAt w ⟨b, 0, none⟩ 32 = byteCells id.1
  has : hasAt w ⟨b, 0, none⟩ 32
theorem Rcv.facts {B b : Nat} {id : Id} {n : Int} {bs : List UInt8} {d : Bool} {g : Option Nat} {w : World} (h : Rcv B b id n bs d g w) : RcvFacts b id n d w := by
  obtain ⟨C, hB, hs, hi, h32, h35⟩ := h
  exact ⟨hB.lt, by rw [Lib.cell_of_heap hB.blk, h32], by rw [Lib.cell_of_heap hB.blk, h35], Lib.frozen_of_heap hB.blk _, by rw [aggAt_of hB.blk 0 32 (by omega)]; simpa using hi, hasAt_of hB.blk 0 32 (by omega)⟩
theorem Rcv.kept {F : Nat → Prop} {B b : Nat} {id : Id} {n : Int} {bs : List UInt8} {d : Bool} {g : Option Nat} {w w' : World} (h : Rcv B b id n bs d g w) (hk : Kept F w w') (hb : ¬ F b) (hg : ∀ k, g = some k → ¬ F k) : Rcv B b id n bs d g w' := by
  obtain ⟨C, hB, r⟩ := h
  exact ⟨C, hB.kept hk hb hg, r⟩
theorem Rcv.glt {B b : Nat} {id : Id} {n : Int} {bs : List UInt8} {d : Bool} {g : Option Nat} {w : World} (h : Rcv B b id n bs d g w) : ∀ k, g = some k → B ≤ k ∧ k < w.heap.size := by
  obtain ⟨C, hB, r⟩ := h
  exact hB.glt
theorem Rcv.alloc {B b : Nat} {id : Id} {n : Int} {bs : List UInt8} {d : Bool} {g : Option Nat} {w : World} (h : Rcv B b id n bs d g w) (o : Obj) : Rcv B b id n bs d g (w.alloc o) :=
  h.kept (F := fun _ => False) ((Kept.refl _ _).alloc o) (fun f => f) (fun _ _ f => f)
theorem Rcv.drewN {B b : Nat} {id : Id} {n : Int} {bs : List UInt8} {d : Bool} {g : Option Nat} {w : World} (h : Rcv B b id n bs d g w) (k : Nat) : Rcv B b id n bs d g (w.drewN k) :=
  h.kept (F := fun _ => False) ((Kept.refl _ _).drewN k) (fun f => f) (fun _ _ f => f)

/-- The bytes a receiver holds, the offset. -/
theorem rcv_Len {B b : Nat} {id : Id} {n : Int} {bs : List UInt8} {d : Bool} {g : Option Nat} {w : World} (h : Rcv B b id n bs d g w) :
    Calls Try.prog 22 #[.pointer (some ⟨b, 33, none⟩)] w fun e w' => e = .returned (.int .i64 bs.length) ∧ w = w' := by
  obtain ⟨C, hB, _⟩ := h
  have := bld_Len _ B b 33 C g _ w hB
  rwa [byteCells_len] at this

set_option maxHeartbeats 400000 in
theorem from_any {B b : Nat} {id : Id} {n : Int} {bs : List UInt8} {d : Bool} {g : Option Nat} {w : World} (h : Rcv B b id n bs d g w) :
    Calls Try.prog 10 #[.pointer (some ⟨b, 0, none⟩)] w fun e w' => e = .returned (.int .i64 bs.length) ∧ w = w' := by
  go_enter Try.func10, Try.ntmps10
  go_wp2_with (go_at_call 22; refine (rcv_Len h).mono ?_; rintro e w' ⟨rfl, rfl⟩)
  go_ret
  exact ⟨rfl, rfl⟩

set_option maxHeartbeats 400000 in
theorem complete_any {B b : Nat} {id : Id} {n : Int} {bs : List UInt8} {d : Bool} {g : Option Nat} {w : World} (h : Rcv B b id n bs d g w) :
    Calls Try.prog 17 #[.pointer (some ⟨b, 0, none⟩)] w fun e w' => e = .returned (.bool d) ∧ w = w' := by
  have c35 := h.facts.c35
  clear h
  go_enter Try.func17, Try.ntmps17
  go_wp2
  go_ret
  exact ⟨rfl, rfl⟩

set_option maxHeartbeats 400000 in
theorem text_no {B b : Nat} {id : Id} {n : Int} {bs : List UInt8} {g : Option Nat} {w : World} (h : Rcv B b id n bs false g w) :
    Calls Try.prog 11 #[.pointer (some ⟨b, 0, none⟩)] w fun e w' => e = .returned (.tuple #[.string ⟨#[]⟩, .int .i64 10]) ∧ w = w' := by
  have c35 := h.facts.c35
  clear h
  go_enter Try.func11, Try.ntmps11
  go_wp2
  go_ret2
  exact ⟨rfl, rfl⟩

theorem rcv_String {B b : Nat} {id : Id} {n : Int} {bs : List UInt8} {d : Bool} {g : Option Nat} {w : World} (h : Rcv B b id n bs d g w) :
    Calls Try.prog 23 #[.pointer (some ⟨b, 33, none⟩)] w fun e w' => e = .returned (.string ⟨bs.toArray⟩) ∧ Rcv B b id n bs d g w' ∧ Kept (fun k => g = some k) w w' := by
  obtain ⟨C, hB, r⟩ := h
  exact (bld_String _ B b 33 C g bs w fits_recv.1 hB).mono fun e w' ⟨h1, h2, h3⟩ => ⟨h1, ⟨C, h2, r⟩, h3⟩

set_option maxHeartbeats 400000 in
theorem text_yes {B b : Nat} {id : Id} {n : Int} {bs : List UInt8} {g : Option Nat} {w : World} (h : Rcv B b id n bs true g w) :
    Calls Try.prog 11 #[.pointer (some ⟨b, 0, none⟩)] w fun e w' => e = .returned (.tuple #[.string ⟨bs.toArray⟩, .int .i64 0]) ∧ Rcv B b id n bs true g w' ∧ Kept (fun k => g = some k) w w' := by
  have c35 := h.facts.c35
  go_enter Try.func11, Try.ntmps11
  go_wp2_with (go_at_call 23; refine (rcv_String h).mono ?_; rintro e w' ⟨rfl, h1, h2⟩)
  go_ret2
  exact ⟨rfl, h1, h2⟩

set_option maxHeartbeats 400000 in
theorem own_any (v : Int) (id : Id) (fr : Int) (t : ByteArray) (w : World) :
    Calls Try.prog 9 #[.agg (kL v id fr t).toArray] w fun e w' => e = .returned (.agg (cL v ⟨#[]⟩ id 0 fr 0 0 t).toArray) ∧ Kept (fun _ => False) w w' := by
  go_enter Try.func9, Try.ntmps9
  go_wp2
  refine bodyPost_ret (v := .agg (cL v ⟨#[]⟩ id 0 fr 0 0 t).toArray) ?_ rfl ⟨rfl, ?_⟩
  · exact results_cell_row rfl _ _ (w.heap.size + 1) 34 _ (0, 0) _ rfl (heap_alloc2_new _ _ _) Try.underlying34 (by kernel_rfl) (by rw [List.size_toArray, cL_length]; kernel_rfl)
  · exact ((Kept.refl _ w).alloc _).alloc _
theorem results_cell_row_tmp {P : Program} {fn : Func} {p q : Tmp} {ty : TypeId} (h : fn.results = #[.cell p ty, .tmp q]) (tmps : Array Value) (w : World) (g : Nat) (t : TypeId) (cs : Array Value) (fr : Nat × Nat) (d : TypeDesc)
    (hp : tmps.getD p undef = .pointer (some ⟨g, 0, none⟩)) (hg : w.heap[g]? = some (.cells cs t fr))
    (hu : P.underlying ty = some d) (hd : (match d with | .struct _ | .array _ _ => true | _ => false) = true) (hi : (P.info? ty).map (·.size) = some cs.size) :
    (results fn tmps).run P w = .ok (.tuple #[.agg cs, tmps.getD q undef]) w := by
  have hp' : tmps[p]?.getD undef = .pointer (some ⟨g, 0, none⟩) := by simpa using hp
  simp [results, h, hp', asAddr, run_loadVar_row w g t ty cs fr d hg hu hd hi]

theorem cmd_res {fn : Func} {p q : Tmp} (h : fn.results = #[.cell p 34, .tmp q]) (tmps : Array Value) (w : World) (g : Nat) (v : Int) (nm : ByteArray) (id : Id) (a b c d : Int) (t : ByteArray)
    (hp : tmps.getD p undef = .pointer (some ⟨g, 0, none⟩)) (hg : w.heap[g]? = some (.cells (cL v nm id a b c d t).toArray 34 (0, 0))) :
    (results fn tmps).run Try.prog w = .ok (.tuple #[.agg (cL v nm id a b c d t).toArray, tmps.getD q undef]) w :=
  results_cell_row_tmp h tmps w g 34 _ (0, 0) _ hp hg Try.underlying34 (by kernel_rfl) (by rw [List.size_toArray, cL_length]; kernel_rfl)

/-! ### the sender -/
/-- A sender in block b. -/
def Snd (b : Nat) (id : Id) (text : ByteArray) (chunk sent : Int) (e : Bool) (w : World) : Prop := w.heap[b]? = some (.cells (sL id text chunk sent e).toArray 74 (0, 0))
theorem Snd.kept {F : Nat → Prop} {b : Nat} {id : Id} {text : ByteArray} {chunk sent : Int} {e : Bool} {w w' : World} (h : Snd b id text chunk sent e w) (hk : Kept F w w') (hb : ¬ F b) : Snd b id text chunk sent e w' := hk.heap h hb
theorem Snd.lt {b : Nat} {id : Id} {text : ByteArray} {chunk sent : Int} {e : Bool} {w : World} (h : Snd b id text chunk sent e w) : b < w.heap.size := (Array.getElem?_eq_some_iff.1 h).1
structure SndFacts (b : Nat) (id : Id) (text : ByteArray) (chunk sent : Int) (e : Bool) (w : World) : Prop where
  lt : b < w.heap.size
  c32 : w.cell? ⟨b, 32, none⟩ = some (.string text)
  c33 : w.cell? ⟨b, 33, none⟩ = some (.int .i64 chunk)
  c34 : w.cell? ⟨b, 34, none⟩ = some (.int .i64 sent)
  c35 : w.cell? ⟨b, 35, none⟩ = some (.bool e)
  f34 : w.frozen? ⟨b, 34, none⟩ = false
  f35 : w.frozen? ⟨b, 35, none⟩ = false
  agg : aggAt w ⟨b, 0, none⟩ 32 = byteCells id.1
  has : hasAt w ⟨b, 0, none⟩ 32
theorem Snd.facts {b : Nat} {id : Id} {text : ByteArray} {chunk sent : Int} {e : Bool} {w : World} (h : Snd b id text chunk sent e w) : SndFacts b id text chunk sent e w := by
  have h0 := h
  unfold Snd at h0
  refine ⟨h.lt, ?_, ?_, ?_, ?_, Lib.frozen_of_heap h0 _, Lib.frozen_of_heap h0 _, ?_, hasAt_of h0 0 32 (by rw [List.size_toArray, sL_length]; decide)⟩
  · rw [Lib.cell_of_heap h0]; simp [sL, byteCells, List.getElem?_append, id.2]
  · rw [Lib.cell_of_heap h0]; simp [sL, byteCells, List.getElem?_append, id.2]
  · rw [Lib.cell_of_heap h0]; simp [sL, byteCells, List.getElem?_append, id.2]
  · rw [Lib.cell_of_heap h0]; simp [sL, byteCells, List.getElem?_append, id.2]
  · rw [aggAt_of h0 0 32 (by rw [List.size_toArray, sL_length]; decide)]
    simp [sL, byteCells, List.take_append, id.2]
theorem Snd.put34 {b : Nat} {id : Id} {text : ByteArray} {chunk sent : Int} {e : Bool} {w : World} (h : Snd b id text chunk sent e w) (s : Int) : Snd b id text chunk s e (w.setCell ⟨b, 34, none⟩ (.int .i64 s)) := by
  have := heap_setCell_same w b 34 _ _ (.int .i64 s) h
  unfold Snd
  rw [this]
  simp [sL, List.set_append, byteCells, id.2]
theorem Snd.put35 {b : Nat} {id : Id} {text : ByteArray} {chunk sent : Int} {e : Bool} {w : World} (h : Snd b id text chunk sent e w) (s : Bool) : Snd b id text chunk sent s (w.setCell ⟨b, 35, none⟩ (.bool s)) := by
  have := heap_setCell_same w b 35 _ _ (.bool s) h
  unfold Snd
  rw [this]
  simp [sL, List.set_append, byteCells, id.2]
theorem Snd.new (w : World) (id : Id) (text : ByteArray) (chunk sent : Int) (e : Bool) : Snd w.heap.size id text chunk sent e (w.alloc (.cells (sL id text chunk sent e).toArray 74)) := heap_alloc_new w _

set_option maxHeartbeats 400000 in
theorem sent_any {b : Nat} {id : Id} {text : ByteArray} {chunk sent : Int} {e : Bool} {w : World} (h : Snd b id text chunk sent e w) :
    Calls Try.prog 20 #[.pointer (some ⟨b, 0, none⟩)] w fun r w' => r = .returned (.int .i64 sent) ∧ w = w' := by
  have c34 := h.facts.c34
  clear h
  go_enter Try.func20, Try.ntmps20
  go_wp2
  go_ret
  exact ⟨rfl, rfl⟩

set_option maxHeartbeats 400000 in
theorem newSender_ok (id : Id) (text : ByteArray) (chunk fr : Int) (w : World) (h0 : text.size ≤ 65536) (h1 : 1 ≤ chunk) (h2 : chunk ≤ 4096) (h3 : 0 ≤ fr) (h4 : fr ≤ text.size) :
    Calls Try.prog 18 #[.agg (byteCells id.1).toArray, .string text, .int .i64 chunk, .int .i64 fr] w fun e w' => e = .returned (.tuple #[.pointer (some ⟨w.heap.size + 1, 0, none⟩), .int .i64 0]) ∧
      Snd (w.heap.size + 1) id text chunk fr false w' ∧ Kept (fun _ => False) w w' := by
  go_enter Try.func18, Try.ntmps18
  go_wp2
  go_ret2
  refine ⟨rfl, ?_, ((Kept.refl _ w).alloc _).alloc _⟩
  have := Snd.new (w.alloc (.cells (byteCells id.1).toArray 23)) id text chunk fr false
  rw [World.size_alloc] at this
  exact this

set_option maxHeartbeats 400000 in
theorem say_ended {b : Nat} {id : Id} {text : ByteArray} {chunk sent : Int} {w : World} (h : Snd b id text chunk sent true w) :
    Calls Try.prog 19 #[.pointer (some ⟨b, 0, none⟩)] w fun r w' => r = .returned (.tuple #[.agg (cL 0 ⟨#[]⟩ idZ 0 0 0 0 ⟨#[]⟩).toArray, .bool false]) ∧ Kept (fun _ => False) w w' := by
  have c35 := h.facts.c35
  have lt := h.facts.lt
  clear h
  go_enter Try.func19, Try.ntmps19
  go_wp2
  (try simp only [Exit.inBlock, Exit.then])
  refine bodyPost_ret (cmd_res rfl _ _ w.heap.size _ _ _ _ _ _ _ _ rfl (heap_alloc_new _ _)) rfl ⟨rfl, ?_⟩
  exact (Kept.refl _ w).alloc _

set_option maxHeartbeats 400000 in
theorem say_last {b : Nat} {id : Id} {text : ByteArray} {chunk : Int} {w : World} (h : Snd b id text chunk text.size false w) (hs : text.size ≤ 65536) :
    Calls Try.prog 19 #[.pointer (some ⟨b, 0, none⟩)] w fun r w' => r = .returned (.tuple #[.agg (cL 8 ⟨#[]⟩ id 0 0 0 0 ⟨#[]⟩).toArray, .bool true]) ∧
      Snd b id text chunk text.size true w' ∧ Kept (fun k => k = b) w w' := by
  obtain ⟨lt, c32, c33, c34, c35, f34, f35, agg, has⟩ := h.facts
  have H := Lib.hid h
  clear h
  go_enter Try.func19, Try.ntmps19
  go_wp2
  go_quiet (fail)
  go_wp2
  have hb1 : (((w.alloc (.cells (cL 0 ⟨#[]⟩ idZ 0 0 0 0 ⟨#[]⟩).toArray 34)).drewN nq).setCell ⟨b, 35, none⟩ (.bool true)).heap[w.heap.size]? = some (.cells (cL 0 ⟨#[]⟩ idZ 0 0 0 0 ⟨#[]⟩).toArray 34 (0, 0)) :=
    (Below.heap_setCell _ _ _ _ (by simp; omega)).trans (heap_alloc_new w _)
  (try simp only [Exit.inBlock, Exit.then])
  refine bodyPost_ret (cmd_res rfl _ _ w.heap.size _ _ _ _ _ _ _ _ rfl (putAgg_same hb1 (by rw [List.size_toArray, cL_length, cL_length]))) rfl ⟨rfl, ?_, ?_⟩
  · refine (putAgg_other (by simp; omega)).trans ?_
    exact Snd.put35 (w := (w.alloc _).drewN nq) ((H.out.kept (F := fun _ => False) ((Kept.refl _ w).alloc _) (fun f => f)).kept (F := fun _ => False) ((Kept.refl _ _).drewN nq) (fun f => f)) true
  · exact ((((Kept.refl (fun k => k = b) w).alloc _).drewN nq).setCell (p := ⟨b, 35, none⟩) (fun _ => rfl) _).putAgg (a := ⟨w.heap.size, 0, none⟩) (fun h => absurd h (Nat.lt_irrefl _)) _

/-- How Say ends behind a part. -/
theorem say_end {b : Nat} {id : Id} {text : ByteArray} {chunk sent : Int} {e : Bool} {w : World} (h : Snd b id text chunk sent e w) (s : Int) (k : Nat) {v : Int} {fr : Int} {t : ByteArray} {a : Act}
    (h1 : a.tmps.getD 2 undef = .pointer (some ⟨w.heap.size, 0, none⟩)) (h2 : a.tmps.getD 3 undef = .bool true) (h3 : a.defers = []) :
    bodyPost Try.prog Try.f19 (fun r w' => r = .returned (.tuple #[.agg (cL v ⟨#[]⟩ id 0 fr 0 0 t).toArray, .bool true]) ∧ Snd b id text chunk s e w' ∧ Kept (fun k => k = b) w w') Exit.ret a
      (putAgg (((w.alloc (.cells (cL 0 ⟨#[]⟩ idZ 0 0 0 0 ⟨#[]⟩).toArray 34)).drewN k).setCell ⟨b, 34, none⟩ (.int .i64 s)).drew ⟨w.heap.size, 0, none⟩ (cL v ⟨#[]⟩ id 0 fr 0 0 t)) := by
  have lt := h.lt
  have hb1 : (((w.alloc (.cells (cL 0 ⟨#[]⟩ idZ 0 0 0 0 ⟨#[]⟩).toArray 34)).drewN k).setCell ⟨b, 34, none⟩ (.int .i64 s)).drew.heap[w.heap.size]? = some (.cells (cL 0 ⟨#[]⟩ idZ 0 0 0 0 ⟨#[]⟩).toArray 34 (0, 0)) :=
    (Below.heap_setCell _ _ _ _ (by simp; omega)).trans (heap_alloc_new w _)
  refine bodyPost_ret (cmd_res rfl _ _ w.heap.size _ _ _ _ _ _ _ _ h1 (putAgg_same hb1 (by rw [List.size_toArray, cL_length, cL_length]))) h3 ⟨by rw [h2], ?_, ?_⟩
  · refine (putAgg_other (by simp; omega)).trans ?_
    exact Snd.put34 (w := (w.alloc _).drewN k) ((h.kept (F := fun _ => False) ((Kept.refl _ w).alloc _) (fun f => f)).kept (F := fun _ => False) ((Kept.refl _ _).drewN k) (fun f => f)) s
  · exact (((((Kept.refl (fun k => k = b) w).alloc _).drewN k).setCell (p := ⟨b, 34, none⟩) (fun _ => rfl) _).drew).putAgg (a := ⟨w.heap.size, 0, none⟩) (fun h => absurd h (Nat.lt_irrefl _)) _

set_option maxHeartbeats 400000 in
theorem say_part1 {b : Nat} {id : Id} {text : ByteArray} {chunk sent : Int} {w : World} (h : Snd b id text chunk sent false w) (hs : text.size ≤ 65536) (h1 : 1 ≤ chunk) (h2 : chunk ≤ 4096) (h3 : 0 ≤ sent) (h4 : sent < text.size) (hc : (text.size : Int) ≤ sent + chunk) :
    Calls Try.prog 19 #[.pointer (some ⟨b, 0, none⟩)] w fun r w' => r = .returned (.tuple #[.agg (cL 7 ⟨#[]⟩ id 0 sent 0 0 (text.extract sent.toNat (text.size : Int).toNat)).toArray, .bool true]) ∧
      Snd b id text chunk text.size false w' ∧ Kept (fun k => k = b) w w' := by
  obtain ⟨lt, c32, c33, c34, c35, f34, f35, agg, has⟩ := h.facts
  have H := Lib.hid h
  have hne : (sent == (text.size : Int)) = false := by simp; omega
  clear h
  go_enter Try.func19, Try.ntmps19
  go_wp2
  go_quiet (fail)
  go_wp2
  go_region
  go_wp2
  go_region
  go_wp2
  exact say_end H.out _ _ rfl rfl rfl

set_option maxHeartbeats 400000 in
theorem say_part2 {b : Nat} {id : Id} {text : ByteArray} {chunk sent : Int} {w : World} (h : Snd b id text chunk sent false w) (hs : text.size ≤ 65536) (h1 : 1 ≤ chunk) (h2 : chunk ≤ 4096) (h3 : 0 ≤ sent) (h4 : sent < text.size) (hc : sent + chunk < text.size) :
    Calls Try.prog 19 #[.pointer (some ⟨b, 0, none⟩)] w fun r w' => r = .returned (.tuple #[.agg (cL 7 ⟨#[]⟩ id 0 sent 0 0 (text.extract sent.toNat ((sent + chunk) : Int).toNat)).toArray, .bool true]) ∧
      Snd b id text chunk (sent + chunk) false w' ∧ Kept (fun k => k = b) w w' := by
  obtain ⟨lt, c32, c33, c34, c35, f34, f35, agg, has⟩ := h.facts
  have H := Lib.hid h
  have hne : (sent == (text.size : Int)) = false := by simp; omega
  clear h
  go_enter Try.func19, Try.ntmps19
  go_wp2
  go_quiet (fail)
  go_wp2
  go_region
  go_wp2
  go_region
  go_wp2
  exact say_end H.out _ _ rfl rfl rfl

end Go.Proofs.Ytoeapcfnbomlgaa
