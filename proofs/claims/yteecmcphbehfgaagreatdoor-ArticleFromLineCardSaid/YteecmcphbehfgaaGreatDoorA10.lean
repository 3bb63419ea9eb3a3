/- utf8: Encode of a code point, Printable. Conditions: texts of at most 1000000 bytes. -/
import Derived.Test.YteecmcphbehfgaaGreatDoorA9
namespace Go.Proofs.YteecmcphbehfgaaGreatDoor
open Go.RowKit Go.Lib Go.Shelf
attribute [local go_sem] Oper.semAt_some

theorem encode_any (r : Nat) (h : r ≤ 1114111) (hsu : ¬ (55296 ≤ r ∧ r ≤ 57343)) (w : World) : Calls Tryz.prog 60 #[.int .i32 (r : Int)] w fun e w' => e = .returned (.tuple #[strV (encL r), .int .i64 0]) ∧ Below w.heap.size w w' := by
  by_cases h1 : r ≤ 127
  · exact encode_1 r (Nat.zero_le _) h1 w
  by_cases h2 : r ≤ 2047
  · exact encode_2 r (by omega) h2 w
  by_cases h3 : r ≤ 65535
  · exact encode_3 r (by omega) h3 hsu w
  exact encode_4 r (by omega) h hsu w
theorem encL_len (r : Nat) : (encL r).length ≤ 4 := by unfold encL; (repeat' split) <;> simp

theorem runes_any (s : ByteArray) (w : World) : Calls Tryz.prog 59 #[.string s] w fun e w' => e = .returned (.func (.func 85) #[] #[.pointer (some ⟨w.heap.size, 0, none⟩)]) ∧ w' = w.alloc (.cells #[.string s] 9) := by
  go_enter Tryz.func59, Tryz.ntmps59
  go_wp2
  go_ret
  exact ⟨rfl, rfl⟩

def PrintablePost (l : List UInt8) (w : World) (e : Ending) (w' : World) : Prop := e = .returned (.bool ((errL l).isNone && (hidL ctlN l).isNone)) ∧ Below w.heap.size w w'
theorem hidL_pre {p : Nat → Bool} {l : List UInt8} {pre : List (Nat × Nat)} {x : Nat × Nat} (h : pre ++ [x] <+: runesL l) (h0 : ∀ y ∈ pre, p y.2 = false) (hx : p x.2 = true) : hidL p l = some x.1 := by
  obtain ⟨t, ht⟩ := h
  rw [hidL_find, ← ht, List.append_assoc, List.find?_append, List.find?_eq_none.2 (fun y hy => by simp [h0 y hy])]
  simp [hx]
theorem hidL_none {p : Nat → Bool} {l : List UInt8} (h0 : ∀ y ∈ runesL l, p y.2 = false) : hidL p l = none := by
  rw [hidL_find, List.find?_eq_none.2 (fun y hy => by simp [h0 y hy])]
  rfl

set_option maxRecDepth 100000 in
set_option maxHeartbeats 4000000 in
theorem uprintable_any (s : ByteArray) (hs : s.size ≤ 1000000) (w : World) : Calls Tryz.prog 61 #[.string s] w (PrintablePost s.data.toList w) := by
  have CV := Lib.hid (uvalid_any s hs)
  refine (callsIn_wide (n := 4)).1 ?_
  refine callsIn_of_wp_marks Tryz.func61 rfl trivial ?_ rfl
  simp only [Tryz.ntmps61, List.size_toArray, List.length_cons, List.length_nil, Nat.reduceAdd, Nat.reduceSub, Array.replicate_succ, Array.replicate_zero, List.push_toArray, List.append_toArray, List.nil_append, List.cons_append]
  have hb0 : Below w.heap.size w (w.alloc (.cells #[.bool false] 4)) := (Below.refl _ w).alloc (Nat.le_refl _) _
  have hr0 := heap_alloc_new w (.cells #[.bool false] 4)
  have HB0 := Lib.hid hb0
  have HR0 := Lib.hid hr0
  clear hb0 hr0
  gi_wp2_with fail
  refine ⟨trivial, ?_⟩
  refine (callsIn_wide.2 (CV.out _)).mono ?_
  rintro e w1 ⟨rfl, hb1⟩
  have HB1 := Lib.hid (HB0.out.trans (hb1.mono (by simp)))
  have hr1 : w1.heap[w.heap.size]? = some (.cells #[.bool false] 4 (0, 0)) := (hb1.block _ (by simp)).trans HR0.out
  have HR1 := Lib.hid hr1
  have hlt1 := lt_of_block hr1
  have c0 := cell_of_one hr1
  have f0 := free_of_one hr1
  clear hb1 hr1
  cases hd : errL s.data.toList with
  | some a =>
    have HD := Lib.hid hd
    clear hd
    gi_wp2
    have hc1 : (w1.setCell ⟨w.heap.size, 0, none⟩ (.bool false)).cell? ⟨w.heap.size, 0, none⟩ = some (.bool false) := cell_of_one (one_setCell HR1.out)
    refine ⟨.bool false, by simp [results, Tryz.f61, go_sem, hc1], ret_boolA (by rw [HD.out]; rfl), HB1.out.setCell (p := ⟨w.heap.size, 0, none⟩) (Nat.le_refl _) _⟩
  | none =>
    have HD := Lib.hid hd
    clear hd
    have CR := Lib.hid (runes_any s)
    gi_wp2_with fail
    refine ⟨trivial, ?_⟩
    refine (callsIn_wide.2 (CR.out _)).mono ?_
    rintro e w2 ⟨rfl, rfl⟩
    gi_wp2_with fail
    have HB2 := Lib.hid (HB1.out.alloc HB1.out.size (.cells #[.string s] 9))
    have hr2 : (w1.alloc (.cells #[.string s] 9)).heap[w.heap.size]? = some (.cells #[.bool false] 4 (0, 0)) := (Below.heap_alloc _ _ _ hlt1).trans HR1.out
    have hs2 := heap_alloc_new w1 (.cells #[.string s] 9)
    have hz2 : (w1.alloc (.cells #[.string s] 9)).heap.size = w1.heap.size + 1 := by simp
    generalize w1.alloc (.cells #[.string s] 9) = w2 at *
    obtain ⟨bx, hbx⟩ : ∃ bx, w1.heap.size = bx := ⟨_, rfl⟩
    rw [hbx] at hs2 hz2 hlt1 ⊢
    refine range_law rfl (by omega) (gf := 85) (lb := #[.pointer (some ⟨bx, 0, none⟩)]) rfl trivial (enters_of Tryz.func85 (by kernel_rfl) rfl)
      (runes_iter bx s hs _ (fun k => k = bx) rfl w2 hs2) (by omega) (fun k hk => by have hk' : k = bx := hk; omega) (fun _ => rfl)
      (fun pre W => (∀ y ∈ pre, ctlN y.2 = false) ∧ W.heap[w.heap.size]? = some (.cells #[.bool false] 4 (0, 0)) ∧ Below w.heap.size w W)
      (fun c pre W => c = .ret ∧ hidL ctlN s.data.toList ≠ none ∧ W.heap[w.heap.size]? = some (.cells #[.bool false] 4 (0, 0)) ∧ Below w.heap.size w W)
      ?hI ?hIx ⟨fun y hy => (by cases hy), hr2, HB2.out⟩
      (fun x => { tmps := #[.string s, undef, .pointer (some ⟨w.heap.size, 0, none⟩), undef, .int .i32 x.2, .string s, .bool true, .bool false, .string s, .func (.func 85) #[] #[.pointer (some ⟨bx, 0, none⟩)], .int .i64 x.1, .int .i32 x.2, undef, undef], defers := [] }) ?assign ?body ?done ?stop
    case hI =>
      rintro pre W W' ⟨h1, h2, h3⟩ hk
      refine ⟨h1, hk.heap h2 (by rintro (e | ⟨e, _⟩) <;> omega), h3.trans (hk.toBelow (by rintro k (e | ⟨e, _⟩) <;> omega) h3.size)⟩
    case hIx =>
      rintro c pre W W' ⟨h0, h1, h2, h3⟩ hk
      refine ⟨h0, h1, hk.heap h2 (by rintro (e | ⟨e, _⟩) <;> omega), h3.trans (hk.toBelow (by rintro k (e | ⟨e, _⟩) <;> omega) h3.size)⟩
    case assign =>
      intro l x W K hK
      simp only [encR]
      gi_wp2
      exact hK
    case body =>
      rintro l pre x W ⟨h1, h2, h3⟩ hpre hsz
      have hmem : x ∈ runesL s.data.toList := hpre.subset (List.mem_append.2 (.inr (List.mem_singleton.2 rfl)))
      have hx := runesL_ok hmem
      have CC := Lib.hid (control_any x.2 hx.1)
      have c0 := cell_of_one h2
      have f0 := free_of_one h2
      have hlt := lt_of_block h2
      have H1 := Lib.hid h1
      have H2 := Lib.hid h2
      have H3 := Lib.hid h3
      have HP := Lib.hid hpre
      clear h1 h2 h3 hpre hmem
      gi_wp2_with fail
      refine ⟨trivial, (CallsIn.inRound l (callsIn_wide.2 (CC.out _))).mono ?_⟩
      rintro e w3 ⟨rfl, hb3⟩
      have hr3 := (hb3.block _ hlt).trans H2.out
      have hk3 : Kept (fun k => k = w.heap.size) W w3 := (kept_of_below hb3).mono (fun _ _ f => f.elim)
      have c3 := cell_of_one hr3
      have f3 := free_of_one hr3
      have hsz3 := hb3.size
      have HR3 := Lib.hid hr3
      have HK3 := Lib.hid hk3
      have HB3 := Lib.hid (H3.out.trans (hb3.mono H3.out.size))
      clear hb3 hr3 hk3
      cases hc : ctlN x.2 with
      | true =>
        have HCC := Lib.hid hc
        clear hc
        gi_wp2
        refine ⟨Held.of (F := fun k => k = w.heap.size) (HK3.out.setCell (p := ⟨w.heap.size, 0, none⟩) (fun _ => rfl) _) (fun k hk => ⟨by have hk' : k = bx := hk; omega, by have hk' : k = bx := hk; omega⟩) (fun k o hk hB _ => by have hk' : k = w.heap.size := hk; omega), rfl, ?_, one_setCell HR3.out, HB3.out.setCell (p := ⟨w.heap.size, 0, none⟩) (Nat.le_refl _) _⟩
        rw [hidL_pre HP.out H1.out HCC.out]
        exact fun f => by cases f
      | false =>
        have HCC := Lib.hid hc
        clear hc
        gi_wp2
        refine ⟨Held.of (F := fun k => k = w.heap.size) HK3.out (fun k hk => ⟨by have hk' : k = bx := hk; omega, by have hk' : k = bx := hk; omega⟩) (fun k o hk hB _ => by have hk' : k = w.heap.size := hk; omega), ?_, HR3.out, HB3.out⟩
        intro y hy
        rcases List.mem_append.1 hy with hy | hy
        · exact H1.out y hy
        · rw [List.mem_singleton.1 hy]; exact HCC.out
    case done =>
      rintro D W hD ⟨h1, h2, h3⟩ hK
      have c0 := cell_of_one h2
      have f0 := free_of_one h2
      have hlt := lt_of_block h2
      have H1 := Lib.hid h1
      have H2 := Lib.hid h2
      have H3 := Lib.hid h3
      have HKD := Lib.hid hK
      clear h1 h2 h3 hK
      gi_wp2
      have hK' : (W.setCell ⟨w.heap.size, 0, none⟩ (.bool true)).heap[D]? = some (.deferred (some [])) := (Below.heap_setCell _ _ _ _ (by show D ≠ w.heap.size; omega)).trans HKD.out
      refine ⟨by simp, .inl ⟨_, _, rfl, run_takeDeferred hK', ?_⟩⟩
      have hr5 := one_setCell (u := .bool true) H2.out
      have hc5 : ((W.setCell ⟨w.heap.size, 0, none⟩ (.bool true)).putObj D (.deferred none)).cell? ⟨w.heap.size, 0, none⟩ = some (.bool true) := cell_of_one ((World.putObj_heap_other (by omega)).trans hr5)
      refine ⟨.bool true, by simp [results, Tryz.f61, go_sem, hc5], ret_boolA (by rw [HD.out, hidL_none H1.out]; rfl), ?_⟩
      have hb5 := H3.out.setCell (p := ⟨w.heap.size, 0, none⟩) (Nat.le_refl _) (.bool true)
      exact hb5.trans ((kept_put _ D _).toBelow (fun k e => by have e' : k = D := e; omega) hb5.size)
    case stop =>
      rintro D c pre W hD hpre ⟨rfl, h1, h2, h3⟩ hK
      gi_wp2
      refine ⟨by simp, .inl ⟨_, _, rfl, run_takeDeferred hK, ?_⟩⟩
      have hc5 : (W.putObj D (.deferred none)).cell? ⟨w.heap.size, 0, none⟩ = some (.bool false) := cell_of_one ((World.putObj_heap_other (by omega)).trans h2)
      refine ⟨.bool false, by simp [results, Tryz.f61, go_sem, hc5], ret_boolA ?_, h3.trans ((kept_put _ D _).toBelow (fun k e => by have e' : k = D := e; omega) h3.size)⟩
      cases hh : hidL ctlN s.data.toList with
      | none => exact absurd hh h1
      | some a => simp
end Go.Proofs.YteecmcphbehfgaaGreatDoor
