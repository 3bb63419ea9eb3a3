/- With by the program over this translation.
   Conditions: names and bodies of at most 1000000 bytes. -/
import Derived.Test.YtknamddpflkifaaG21
import Derived.Deep.RegionHeld3
namespace Go.Proofs.Ytknamddpflkifaa
open Go.RowKit Go.Lib

/-- The row of Without, whatever world it is called in. -/
def WoAt (fs : List (List UInt8 × List UInt8)) (name : List UInt8) (w W : World) (e : Ending) (w' : World) : Prop :=
  ∃ A cap, e = .returned (.slice A (withoutF name fs).length cap) ∧ w'.ownsRow W.heap.size 28 2 (.slice A (withoutF name fs).length cap) (withoutF name fs).length (cellsF (withoutF name fs)) ∧ Below W.heap.size W w' ∧ Below w.heap.size w w'
theorem without_at {A : Option Addr} {cap : Nat} {fs : List (List UInt8 × List UInt8)} {w : World} (name : ByteArray) (h : FldsAt A fs w) (hz : ∀ f ∈ fs, f.1.length ≤ 1000000 ∧ f.2.length ≤ 1000000) (hn : fs.length ≤ 1000000) (hs : name.size ≤ 9223372036854775807) (W : World) (hk : Kept (fun _ => False) w W) :
    Calls Try.prog 28 #[.slice A fs.length cap, .string name] W (WoAt fs name.data.toList w W) := by
  refine (without_any (cap := cap) name (h.kept hk (fun _ _ f => f)) hz hn hs).mono ?_
  rintro e w' ⟨v, rfl, hown, hb⟩
  obtain ⟨A3, cap3, rfl⟩ := own_shape2 hown
  exact ⟨A3, cap3, rfl, hown, hb, (hk.below (fun _ _ _ f => f) (Nat.le_refl _)).trans (hb.mono hk.size)⟩

theorem first_cells {W : World} (b : Nat) (x y : Value) (T : TypeId) (h : W.heap[b]? = some (.cells #[x, y] T (0, 0))) : W.cell? ⟨b, 0, none⟩ = some x ∧ W.cell? ⟨b, 1, none⟩ = some y := ⟨(two_cells h).1, (two_cells h).2.1⟩
theorem cell_kept_alloc {w : World} {a : Addr} {v : Value} {o : Obj} (h : w.cell? a = some v) : (w.alloc o).cell? a = some v := (((Kept.refl (fun _ => False) w).alloc o).cell (World.block_lt_of_cell? w _ h) (fun f => f)).trans h
set_option maxRecDepth 10000 in
set_option maxHeartbeats 4000000 in
theorem with_any {A : Option Addr} {cap : Nat} {fs : List (List UInt8 × List UInt8)} {w : World} (fn fb : List UInt8) (h : FldsAt A fs w) (hz : ∀ f ∈ fs, f.1.length ≤ 1000000 ∧ f.2.length ≤ 1000000) (hn : fs.length ≤ 1000000) (hs : fn.length ≤ 1000000) :
    Calls Try.prog 29 #[.slice A fs.length cap, .agg #[strV fn, strV fb]] w (RowPost 28 (withoutF fn fs ++ [(fn, fb)]) w) := by
  obtain ⟨i0, hi, hz0, hz1, hz2⟩ := info_parts Try.fld_info
  have HI := Lib.hid hi
  have HZ0 := Lib.hid hz0
  have HZ1 := Lib.hid hz1
  have HZ2 := Lib.hid hz2
  clear hi hz0 hz1 hz2
  have CW := Lib.hid (without_at (cap := cap) (bsOf fn) h hz hn (by rw [bsOf_size]; omega))
  rw [bsOf_data] at CW
  obtain ⟨R, hR⟩ : ∃ R, withoutF fn fs = R := ⟨_, rfl⟩
  obtain ⟨nr, hnr⟩ : ∃ nr, R.length = nr := ⟨_, rfl⟩
  have HNR := Lib.hid hnr
  have hnr2 : nr ≤ 1000000 := by
    rw [← hnr, ← hR]
    exact Nat.le_trans (List.length_filter_le _ _) hn
  unfold WoAt at CW
  rw [hR] at CW
  rw [hnr] at CW
  obtain ⟨nf, hnf⟩ : ∃ nf, fs.length = nf := ⟨_, rfl⟩
  rw [hnf] at CW ⊢
  rw [hR]
  clear h hz hn hR hnr hnf
  unfold strV
  go_enter Try.func29, Try.ntmps29
  go_wp2_with fail
  go_region_held3 (fun w' => w'.cell? ⟨w.heap.size, 0, none⟩ = some (.string (bsOf fn)) ∧ w'.cell? ⟨w.heap.size, 1, none⟩ = some (.string (bsOf fb)))
    (first
      | go_keep
      | exact ⟨q0, q1⟩
      | (go_split_ands
         refine ⟨?_, ?_⟩
         · (rw [hgrow3.cell_far ⟨w.heap.size, 0, none⟩ (by simp; omega) hne2]; first | exact q0 | exact cell_kept_alloc q0 | simp [*])
         · (rw [hgrow3.cell_far ⟨w.heap.size, 1, none⟩ (by simp; omega) hne2]; first | exact q1 | exact cell_kept_alloc q1 | simp [*])))
    (first
      | (go_at_call 28; refine (CW.out _ (by repeat (first | exact Kept.refl _ _ | refine Kept.drew ?_ | refine Kept.alloc ?_ _))).mono ?_; rintro e w2 ⟨A3, cap3, rfl, hown2, hbW, hb2⟩; have hzW := hbW.size; have hne2 : some w.heap.size ≠ Value.ownBlock (.slice A3 nr cap3) := (by intro e; have := (own_lt hown2 _ e.symm).1; simp at this; omega); have hown2 := own_base hown2 (B' := w.heap.size) (by simp; try omega); have hz2 : w.heap.size + 1 ≤ w2.heap.size := (by simp at hzW; omega); obtain ⟨q0, q1⟩ : w2.cell? ⟨w.heap.size, 0, none⟩ = some (.string (bsOf fn)) ∧ w2.cell? ⟨w.heap.size, 1, none⟩ = some (.string (bsOf fb)) := ⟨((bcell hbW).1 w.heap.size 0 (by simp; try omega)).trans (first_cells w.heap.size _ _ _ (by first | exact heap_new_at rfl _ | exact heap_old_at (heap_new_at rfl _) _)).1, ((bcell hbW).1 w.heap.size 1 (by simp; try omega)).trans (first_cells w.heap.size _ _ _ (by first | exact heap_new_at rfl _ | exact heap_old_at (heap_new_at rfl _) _)).2⟩)
      | (refine step_append_lies _ (by rfl) _ _ 39 (by rfl) w.heap.size 28 i0 (.agg #[.string ⟨#[]⟩, .string ⟨#[]⟩]) 2 32 Try.underlying39 HI.out HZ0.out HZ1.out HZ2.out rfl (by decide) (.slice A3 nr cap3) nr _ (by rfl) (own_kept hown2 ((Kept.refl (fun _ => False) w2).alloc _) (fun _ _ f => f)) ⟨w2.heap.size, 0, none⟩ 1 1 [.string (bsOf fn), .string (bsOf fb)] (by rfl) (by rfl) (new_cells2' _ _ _ _) (one_two _ _) (by decide) (by unfold maxLen; omega) (by omega) (by have := hb2.size; simp; omega) _ rfl ?_; intro g3 cap4 w3 hown3 hgrow3 hlies3 hlt3)
      | (refine step_append_lies _ (by rfl) _ _ 39 (by rfl) w.heap.size 28 i0 (.agg #[.string ⟨#[]⟩, .string ⟨#[]⟩]) 2 32 Try.underlying39 HI.out HZ0.out HZ1.out HZ2.out rfl (by decide) (.slice A3 nr cap3) nr _ (by rfl) hown2 ⟨w.heap.size + 1, 0, none⟩ 1 1 [.string (bsOf fn), .string (bsOf fb)] (by rfl) (by rfl) (World.news_of_block (cs := #[.string (bsOf fn), .string (bsOf fb)]) (t := 28) (fr := (0, 0)) ((hbW.block _ (by simp)).trans (heap_new_at (by simp) _))) (one_two _ _) (by decide) (by unfold maxLen; omega) (by omega) (by have := hb2.size; simp; omega) _ rfl ?_; intro g3 cap4 w3 hown3 hgrow3 hlies3 hlt3))
  all_goals
    have hB3 : Below w.heap.size w2 w3 := by
      have hk : Kept (fun j => Value.ownBlock (.slice A3 nr cap3) = some j) w2 w3 := by
        first
          | exact (Kept.refl _ w2).grown hgrow3 (fun j _ e => e)
          | exact ((Kept.refl _ w2).alloc _).grown hgrow3 (fun j _ e => e)
      exact hk.toBelow (fun j f => (own_lt hown2 j f).1) (by omega)
    have HB3 := Lib.hid (hb2.trans hB3)
    have HO3 := Lib.hid hown3
    clear hB3 hown3 hgrow3 hlies3
    go_wp2
    go_ret
    refine ⟨_, rfl, ?_, HB3.out⟩
    rw [List.length_append, HNR.out, cellsF_append]
    exact HO3.out
end Go.Proofs.Ytknamddpflkifaa
