/- article: the steps of the parser. Conditions: texts of at most 1000000 bytes. -/
import Derived.Test.YteecmcphbehfgaaGreatDoorB2
namespace Go.Proofs.YteecmcphbehfgaaGreatDoor
open Go.RowKit Go.Lib

/-- The parser in block p. -/
def APr (p : Nat) (text head : ByteArray) (found : Bool) (vf : Value) (body : ByteArray) (w : World) : Prop := w.heap[p]? = some (.cells #[.string text, .string head, .bool found, vf, .string body] 73 (0, 0))
theorem APr.cells {p : Nat} {text head body : ByteArray} {found : Bool} {vf : Value} {w : World} (h : APr p text head found vf body w) :
    (w.cell? ⟨p, 0, none⟩ = some (.string text) ∧ w.cell? ⟨p, 1, none⟩ = some (.string head) ∧ w.cell? ⟨p, 2, none⟩ = some (.bool found) ∧ w.cell? ⟨p, 3, none⟩ = some vf ∧ w.cell? ⟨p, 4, none⟩ = some (.string body)) ∧
    (w.frozen? ⟨p, 0, none⟩ = false ∧ w.frozen? ⟨p, 1, none⟩ = false ∧ w.frozen? ⟨p, 2, none⟩ = false ∧ w.frozen? ⟨p, 3, none⟩ = false ∧ w.frozen? ⟨p, 4, none⟩ = false) := by
  unfold APr at h
  refine ⟨⟨?_, ?_, ?_, ?_, ?_⟩, Lib.frozen_of_heap h 0, Lib.frozen_of_heap h 1, Lib.frozen_of_heap h 2, Lib.frozen_of_heap h 3, Lib.frozen_of_heap h 4⟩ <;> (rw [Lib.cell_of_heap h]; rfl)
theorem two_facts {w : World} {b : Nat} {u v : Value} {T : TypeId} (h : w.heap[b]? = some (.cells #[u, v] T (0, 0))) : (w.cell? ⟨b, 0, none⟩ = some u ∧ w.cell? ⟨b, 1, none⟩ = some v) ∧ (w.frozen? ⟨b, 0, none⟩ = false ∧ w.frozen? ⟨b, 1, none⟩ = false) := by
  refine ⟨⟨?_, ?_⟩, Lib.frozen_of_heap h 0, Lib.frozen_of_heap h 1⟩ <;> (rw [Lib.cell_of_heap h]; rfl)
def lenF (l : List UInt8) : Int × Int := if 65536 < l.length then (65536, 5) else (0, 0)
def failV (q : Int × Int) : Value := .agg #[.int .i64 q.1, .int .i64 q.2]
set_option maxRecDepth 10000 in
set_option maxHeartbeats 1000000 in
theorem alen_any {p : Nat} {text head body : ByteArray} {found : Bool} {vf : Value} {w : World} (h : APr p text head found vf body w) (hs : text.size ≤ 1000000) :
    Calls Tryz.prog 38 #[.pointer (some ⟨p, 0, none⟩)] w fun e w' => e = .returned (failV (lenF text.data.toList)) ∧ Below w.heap.size w w' := by
  obtain ⟨⟨c0, c1, c2, c3, c4⟩, f0, f1, f2, f3, f4⟩ := h.cells
  have hlt := lt_of_block h
  have H := Lib.hid h
  have hll : text.data.toList.length = text.size := by simp
  have HLL := Lib.hid hll
  clear h hll
  by_cases hb : 65536 < text.size
  · have HE : Hid (lenF text.data.toList = (65536, 5)) := Lib.hid (by unfold lenF; rw [if_pos (by rw [HLL.out]; exact hb)])
    go_enter Tryz.func38, Tryz.ntmps38
    go_wp2
    exact bodyPost_ret (v := .agg #[.int .i64 65536, .int .i64 5]) (by simp [results, Tryz.f38, go_sem]) rfl ⟨by rw [HE.out]; rfl, (Below.refl _ _).alloc (Nat.le_refl _) _⟩
  · have HE : Hid (lenF text.data.toList = (0, 0)) := Lib.hid (by unfold lenF; rw [if_neg (by rw [HLL.out]; exact hb)])
    go_enter Tryz.func38, Tryz.ntmps38
    go_wp2
    exact bodyPost_ret (v := .agg #[.int .i64 0, .int .i64 0]) (by simp [results, Tryz.f38, go_sem]) rfl ⟨by rw [HE.out]; rfl, ((Below.refl _ _).alloc (Nat.le_refl _) _)⟩
def sepF (found : Bool) (n : Nat) : Int × Int := if found then (0, 0) else (n, 4)
set_option maxRecDepth 10000 in
set_option maxHeartbeats 1000000 in
theorem asep_any {p : Nat} {text head body : ByteArray} {found : Bool} {vf : Value} {w : World} (h : APr p text head found vf body w) (hs : text.size ≤ 1000000) :
    Calls Tryz.prog 40 #[.pointer (some ⟨p, 0, none⟩)] w fun e w' => e = .returned (failV (sepF found text.size)) ∧ Below w.heap.size w w' := by
  obtain ⟨⟨c0, c1, c2, c3, c4⟩, f0, f1, f2, f3, f4⟩ := h.cells
  have hlt := lt_of_block h
  have H := Lib.hid h
  clear h
  cases found
  · go_enter Tryz.func40, Tryz.ntmps40
    go_wp2
    exact bodyPost_ret (v := .agg #[.int .i64 text.size, .int .i64 4]) (by simp [results, Tryz.f40, go_sem]) rfl ⟨rfl, (Below.refl _ _).alloc (Nat.le_refl _) _⟩
  · go_enter Tryz.func40, Tryz.ntmps40
    go_wp2
    exact bodyPost_ret (v := .agg #[.int .i64 0, .int .i64 0]) (by simp [results, Tryz.f40, go_sem]) rfl ⟨rfl, ((Below.refl _ _).alloc (Nat.le_refl _) _)⟩

theorem ckG_bd (l : List UInt8) : ∀ (f a : Nat), a ≤ l.length → 0 ≤ (ckG l f a).1 ∧ (ckG l f a).1 ≤ l.length
  | 0, _, _ => ⟨Int.le_refl _, Int.natCast_nonneg _⟩
  | f + 1, a, h => by
    have hle := lnN_le l a
    unfold ckG
    by_cases h1 : a < l.length
    · rw [if_pos h1]
      by_cases h2 : lnN l a = l.length - a
      · rw [if_pos h2]; exact ⟨Int.natCast_nonneg _, Int.le_refl _⟩
      rw [if_neg h2]
      by_cases h3 : 998 < lnN l a
      · rw [if_pos h3]; show 0 ≤ (a : Int) + 998 ∧ (a : Int) + 998 ≤ _; omega
      rw [if_neg h3]
      by_cases h4 : 0 ≤ badI ((l.drop a).take (lnN l a))
      · rw [if_pos h4]
        have := badI_bd ((l.drop a).take (lnN l a))
        rw [List.length_take, List.length_drop] at this
        show 0 ≤ (a : Int) + _ ∧ (a : Int) + _ ≤ _
        omega
      · rw [if_neg h4]; exact ckG_bd l f _ (by omega)
    · rw [if_neg h1]; exact ⟨Int.le_refl _, Int.natCast_nonneg _⟩
theorem ckI_bd (l : List UInt8) : 0 ≤ (ckI l).1 ∧ (ckI l).1 ≤ l.length := ckG_bd l _ _ (Nat.zero_le _)
/-- body reads the body behind the header and its empty line. -/
def bodF (l : List UInt8) (h : Nat) : Int × Int := (((h + 1 : Nat) : Int) + (ckI (l.drop (h + 1))).1, (ckI (l.drop (h + 1))).2)
set_option maxRecDepth 10000 in
set_option maxHeartbeats 1000000 in
theorem abody_any {p : Nat} {text head body : ByteArray} {found : Bool} {vf : Value} {w : World} (h : APr p text head found vf body w) (hs : text.size ≤ 1000000) (hh : head.size < text.size) :
    Calls Tryz.prog 41 #[.pointer (some ⟨p, 0, none⟩)] w fun e w' => e = .returned (failV (bodF text.data.toList head.size)) ∧ APr p text head found vf (text.extract (head.size + 1) text.size) w' ∧ Kept (fun k => k = p) w w' := by
  obtain ⟨⟨c0, c1, c2, c3, c4⟩, f0, f1, f2, f3, f4⟩ := h.cells
  have hlt := lt_of_block h
  have H := Lib.hid h
  clear h
  have CB := Lib.hid (checkBody_any (text.extract (head.size + 1) text.size) (by simp; omega))
  rw [ext_drop] at CB
  go_enter Tryz.func41, Tryz.ntmps41
  obtain ⟨q, hq⟩ : ∃ q, ckI (text.data.toList.drop (head.size + 1)) = q := ⟨_, rfl⟩
  have hbd := ckI_bd (text.data.toList.drop (head.size + 1))
  rw [hq, List.length_drop, show text.data.toList.length = text.size by simp] at hbd
  obtain ⟨hq0, hq1⟩ := hbd
  have hq2 : q.1 ≤ text.size := by omega
  have HQ := Lib.hid hq
  have HA := Lib.hid (heap_setCell_same w p 4 _ _ (.string (text.extract (head.size + 1) text.size)) H.out)
  have HK := Lib.hid (((Kept.refl (fun k => k = p) w).setCell (p := ⟨p, 4, none⟩) (fun _ => rfl) (.string (text.extract (head.size + 1) text.size))))
  clear hq hq1
  go_wp2_with fail
  refine (CB.out _).mono ?_
  rintro e w1 ⟨rfl, hb1⟩
  rw [HQ.out]
  have hs1 : (w.setCell ⟨p, 4, none⟩ (.string (text.extract (head.size + 1) text.size))).heap.size = w.heap.size := by simp [World.setCell]
  have HP := Lib.hid ((hb1.block p (by simp [World.setCell]; omega)).trans ((Below.heap_alloc _ _ _ (by rw [hs1]; exact hlt)).trans HA.out))
  have HK1 := Lib.hid ((HK.out.alloc (.cells #[.int .i64 0, .int .i64 0] 77)).trans (G := fun _ => False) (kept_of_below hb1) (fun _ _ f => f.elim))
  have hr1 : w1.heap[w.heap.size]? = some (.cells #[.int .i64 0, .int .i64 0] 77 (0, 0)) := by
    have := heap_alloc_new (w.setCell ⟨p, 4, none⟩ (.string (text.extract (head.size + 1) text.size))) (.cells #[.int .i64 0, .int .i64 0] 77)
    rw [hs1] at this
    exact (hb1.block _ (by simp [World.setCell])).trans this
  obtain ⟨⟨r0, r1⟩, g0, g1⟩ := two_facts hr1
  have hr2 : ((w1.setCell ⟨w.heap.size, 0, none⟩ (.int .i64 ((head.size : Int) + 1 + q.1))).setCell ⟨w.heap.size, 1, none⟩ (.int .i64 q.2)).heap[w.heap.size]? = some (.cells #[.int .i64 ((head.size : Int) + 1 + q.1), .int .i64 q.2] 77 (0, 0)) :=
    heap_setCell_same _ _ 1 _ _ (.int .i64 q.2) (heap_setCell_same w1 w.heap.size 0 _ _ (.int .i64 ((head.size : Int) + 1 + q.1)) hr1)
  have HR2 := Lib.hid hr2
  clear hr2
  have hsz1 := hb1.size
  clear hb1 hr1 hs1 c0 c1 c2 c3 c4 f0 f1 f2 f3 f4
  go_wp2
  obtain ⟨⟨s0, s1⟩, _⟩ := two_facts HR2.out
  refine bodyPost_ret (v := .agg #[.int .i64 ((head.size : Int) + 1 + q.1), .int .i64 q.2]) (by simp [results, Tryz.f41, go_sem, s0, s1]) rfl ⟨?_, ?_, ?_⟩
  · unfold bodF failV
    rw [HQ.out]
    rfl
  · unfold APr
    exact (Below.heap_setCell _ _ _ _ (by show p ≠ w.heap.size; omega)).trans ((Below.heap_setCell _ _ _ _ (by show p ≠ w.heap.size; omega)).trans HP.out)
  · exact (HK1.out.setCell (fun f => absurd f (Nat.lt_irrefl _)) _).setCell (fun f => absurd f (Nat.lt_irrefl _)) _
end Go.Proofs.YteecmcphbehfgaaGreatDoor
