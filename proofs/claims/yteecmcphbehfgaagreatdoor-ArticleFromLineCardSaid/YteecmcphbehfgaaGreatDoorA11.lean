/- article: the first byte of a line that is not permitted. Conditions: texts of at most 1000000 bytes. -/
import Derived.Test.YteecmcphbehfgaaGreatDoorA10
namespace Go.Proofs.YteecmcphbehfgaaGreatDoor
open Go.RowKit Go.Lib Go.Shelf
attribute [local go_sem] Oper.semAt_some

def badI (l : List UInt8) : Int := match badL l with
  | some a => (a : Nat)
  | none => -1
theorem badI_hid {l : List UInt8} {a : Nat} (h : hidL hidN l = some a) : badI l = (a : Nat) := by unfold badI; rw [badL_eq, h]
theorem badI_err {l : List UInt8} {a : Nat} (h : hidL hidN l = none) (h' : errL l = some a) : badI l = (a : Nat) := by unfold badI; rw [badL_eq, h, h']
theorem badI_none {l : List UInt8} (h : hidL hidN l = none) (h' : errL l = none) : badI l = -1 := by unfold badI; rw [badL_eq, h, h']
def BadPost (l : List UInt8) (w : World) (e : Ending) (w' : World) : Prop := e = .returned (.int .i64 (badI l)) ∧ Below w.heap.size w w'
theorem print_one (r : Nat) (h : r ≤ 1114111) (hsu : ¬ (55296 ≤ r ∧ r ≤ 57343)) (W : World) : Calls Tryz.prog 61 #[.string (bsOf (encL r))] W fun e w' => e = .returned (.bool (!ctlN r)) ∧ Below W.heap.size W w' := by
  have hd := dec_enc h hsu
  have hl := encL_len r
  have := uprintable_any (bsOf (encL r)) (by rw [bsOf_size]; omega) W
  rw [bsOf_data] at this
  refine this.mono ?_
  rintro e w' ⟨rfl, hb⟩
  refine ⟨ret_boolA ?_, hb⟩
  obtain ⟨h1, h2⟩ := one_clean hd
  rw [h1, h2]
  cases ctlN r <;> rfl

set_option maxRecDepth 100000 in
set_option maxHeartbeats 4000000 in
theorem badByte_any (s : ByteArray) (hs : s.size ≤ 1000000) (w : World) : Calls Tryz.prog 34 #[.string s] w (BadPost s.data.toList w) := by
  refine (callsIn_wide (n := 4)).1 ?_
  refine callsIn_of_wp_marks Tryz.func34 rfl trivial ?_ rfl
  simp only [Tryz.ntmps34, List.size_toArray, List.length_cons, List.length_nil, Nat.reduceAdd, Nat.reduceSub, Array.replicate_succ, Array.replicate_zero, List.push_toArray, List.append_toArray, List.nil_append, List.cons_append]
  have CR := Lib.hid (runes_any s)
  have CH := Lib.hid (ucheck_any s hs)
  have HB1 := Lib.hid ((Below.refl w.heap.size w).alloc (Nat.le_refl _) (.cells #[.int .i64 0] 3))
  have hr1 := heap_alloc_new w (.cells #[.int .i64 0] 3)
  have HR1 := Lib.hid hr1
  clear hr1
  gi_wp2_with fail
  refine ⟨trivial, ?_⟩
  refine (callsIn_wide.2 (CR.out _)).mono ?_
  rintro e w2 ⟨rfl, rfl⟩
  gi_wp2_with fail
  have HB2 := Lib.hid (HB1.out.alloc HB1.out.size (.cells #[.string s] 9))
  have hr2 : ((w.alloc (.cells #[.int .i64 0] 3)).alloc (.cells #[.string s] 9)).heap[w.heap.size]? = some (.cells #[.int .i64 0] 3 (0, 0)) := (Below.heap_alloc _ _ _ (by simp)).trans HR1.out
  have hs2 : ((w.alloc (.cells #[.int .i64 0] 3)).alloc (.cells #[.string s] 9)).heap[w.heap.size + 1]? = some (.cells #[.string s] 9 (0, 0)) := by
    have := heap_alloc_new (w.alloc (.cells #[.int .i64 0] 3)) (.cells #[.string s] 9)
    rw [World.size_alloc] at this
    exact this
  have hz2 : ((w.alloc (.cells #[.int .i64 0] 3)).alloc (.cells #[.string s] 9)).heap.size = w.heap.size + 1 + 1 := by simp
  generalize (w.alloc (.cells #[.int .i64 0] 3)).alloc (.cells #[.string s] 9) = w2 at *
  try rw [World.size_alloc]
  refine range_law rfl (by omega) (gf := 85) (lb := #[.pointer (some ⟨w.heap.size + 1, 0, none⟩)]) rfl trivial (enters_of Tryz.func85 (by kernel_rfl) rfl)
    (runes_iter (w.heap.size + 1) s hs _ (fun k => k = w.heap.size + 1) rfl w2 hs2) (by omega) (fun k hk => by have hk' : k = w.heap.size + 1 := hk; omega) (fun _ => rfl)
    (fun pre W => (∀ y ∈ pre, hidN y.2 = false) ∧ W.heap[w.heap.size]? = some (.cells #[.int .i64 0] 3 (0, 0)) ∧ Below w.heap.size w W)
    (fun c pre W => c = .ret ∧ (∃ a : Nat, hidL hidN s.data.toList = some a ∧ W.heap[w.heap.size]? = some (.cells #[.int .i64 a] 3 (0, 0))) ∧ Below w.heap.size w W)
    ?hI ?hIx ⟨fun y hy => (by cases hy), hr2, HB2.out⟩
    (fun x => { tmps := #[.string s, undef, .pointer (some ⟨w.heap.size, 0, none⟩), .int .i64 x.1, .int .i32 x.2, undef, undef, undef, undef, .string s, .func (.func 85) #[] #[.pointer (some ⟨w.heap.size + 1, 0, none⟩)], .int .i64 x.1, .int .i32 x.2, undef, undef, undef, undef, undef, undef, undef, undef, undef, undef, undef, undef, undef, undef, undef, undef, undef, undef, undef, undef, undef], defers := [] }) ?assign ?body ?done ?stop
  case hI =>
    rintro pre W W' ⟨h1, h2, h3⟩ hk
    refine ⟨h1, hk.heap h2 (by rintro (e | ⟨e, _⟩) <;> omega), h3.trans (hk.toBelow (by rintro k (e | ⟨e, _⟩) <;> omega) h3.size)⟩
  case hIx =>
    rintro c pre W W' ⟨h0, ⟨a, h1, h2⟩, h3⟩ hk
    refine ⟨h0, ⟨a, h1, hk.heap h2 (by rintro (e | ⟨e, _⟩) <;> omega)⟩, h3.trans (hk.toBelow (by rintro k (e | ⟨e, _⟩) <;> omega) h3.size)⟩
  case assign =>
    intro l x W K hK
    simp only [encR]
    gi_wp2
    exact hK
  case body =>
    rintro l pre x W ⟨h1, h2, h3⟩ hpre hsz
    have hmem : x ∈ runesL s.data.toList := hpre.subset (List.mem_append.2 (.inr (List.mem_singleton.2 rfl)))
    have hx := runesL_ok hmem
    have CE := Lib.hid (encode_any x.2 hx.1 hx.2.1)
    have CP := Lib.hid (print_one x.2 hx.1 hx.2.1)
    have hlt := lt_of_block h2
    have H1 := Lib.hid h1
    have H2 := Lib.hid h2
    have H3 := Lib.hid h3
    have HP := Lib.hid hpre
    clear h1 h2 h3 hpre hmem hx
    gi_wp2_with fail
    refine ⟨trivial, (CallsIn.inRound l (callsIn_wide.2 (CE.out _))).mono ?_⟩
    rintro e w3 ⟨rfl, hb3⟩
    have hr3 := (hb3.block _ hlt).trans H2.out
    have hk3 : Kept (fun k => k = w.heap.size) W w3 := (kept_of_below hb3).mono (fun _ _ f => f.elim)
    have hsz3 := hb3.size
    have HR3 := Lib.hid hr3
    have HK3 := Lib.hid hk3
    have HB3 := Lib.hid (H3.out.trans (hb3.mono H3.out.size))
    clear hb3 hr3 hk3
    have HELD := Lib.hid (fun (y : World) (hk : Kept (fun k => k = w.heap.size) W y) => Held.of (B := w2.heap.size) (Z := fun k => k = w.heap.size + 1) hk (fun k hk => ⟨by have hk' : k = w.heap.size + 1 := hk; omega, by have hk' : k = w.heap.size + 1 := hk; omega⟩) (fun k o hk hB _ => by have hk' : k = w.heap.size := hk; omega))
    have HIDE : Hid (∀ b : Bool, (x.2 ≠ 9 → ctlN x.2 = b) → (x.2 = 9 → b = false) → hidN x.2 = b) := Lib.hid fun b h h' => by
      unfold hidN
      by_cases h9 : x.2 = 9
      · rw [h' h9, h9]; rfl
      · rw [h h9, decide_eq_true h9, Bool.and_true]
    have HGO : Hid (∀ y : World, hidN x.2 = false → Kept (fun k => k = w.heap.size) W y → y.heap[w.heap.size]? = some (.cells #[.int .i64 0] 3 (0, 0)) → Below w.heap.size w y → Held w2.heap.size (fun k => k = w.heap.size + 1) W y ∧ (∀ z ∈ pre ++ [x], hidN z.2 = false) ∧ y.heap[w.heap.size]? = some (.cells #[.int .i64 0] 3 (0, 0)) ∧ Below w.heap.size w y) := Lib.hid fun y h0 hk hr hb => by
      refine ⟨HELD.out y hk, ?_, hr, hb⟩
      intro z hy
      rcases List.mem_append.1 hy with hy | hy
      · exact H1.out z hy
      · rw [List.mem_singleton.1 hy]; exact h0
    by_cases h9 : x.2 = 9
    · have h9b : ((x.2 : Int) != 9) = false := by simp; omega
      have HF := Lib.hid (HIDE.out false (fun f => absurd h9 f) (fun _ => rfl))
      clear h9
      gi_wp2
      refine ⟨trivial, ?_⟩
      gi_wp2
      exact HGO.out _ HF.out HK3.out HR3.out HB3.out
    · have h9b : ((x.2 : Int) != 9) = true := by simp; omega
      cases hc : ctlN x.2 with
      | true =>
        have HCC := Lib.hid (HIDE.out true (fun _ => hc) (fun f => absurd f h9))
        rw [hc] at CP
        clear hc h9
        simp only [strV]
        gi_wp2_with fail
        refine ⟨trivial, (CallsIn.inRound l (callsIn_wide.2 (CP.out _))).mono ?_⟩
        rintro e w4 ⟨rfl, hb4⟩
        have hlt3 := lt_of_block HR3.out
        have hr4 := (hb4.block _ hlt3).trans HR3.out
        have c4 := cell_of_one hr4
        have f4 := free_of_one hr4
        have HR4 := Lib.hid hr4
        have HK4 := Lib.hid (HK3.out.trans (G := fun _ => False) (kept_of_below hb4) (fun _ _ f => f.elim))
        have HB4 := Lib.hid (HB3.out.trans (hb4.mono HB3.out.size))
        clear hb4 hr4
        gi_wp2
        refine ⟨HELD.out _ (HK4.out.setCell (p := ⟨w.heap.size, 0, none⟩) (fun _ => rfl) _), rfl, ⟨x.1, hidL_pre HP.out H1.out HCC.out, one_setCell HR4.out⟩, HB4.out.setCell (p := ⟨w.heap.size, 0, none⟩) (Nat.le_refl _) _⟩
      | false =>
        have HCC := Lib.hid (HIDE.out false (fun _ => hc) (fun f => absurd f h9))
        rw [hc] at CP
        clear hc h9
        simp only [strV]
        gi_wp2_with fail
        refine ⟨trivial, (CallsIn.inRound l (callsIn_wide.2 (CP.out _))).mono ?_⟩
        rintro e w4 ⟨rfl, hb4⟩
        have hlt3 := lt_of_block HR3.out
        have HR4 := Lib.hid ((hb4.block _ hlt3).trans HR3.out)
        have HK4 := Lib.hid (HK3.out.trans (G := fun _ => False) (kept_of_below hb4) (fun _ _ f => f.elim))
        have HB4 := Lib.hid (HB3.out.trans (hb4.mono HB3.out.size))
        clear hb4
        gi_wp2
        exact HGO.out _ HCC.out HK4.out HR4.out HB4.out
  case done =>
    rintro D W hD ⟨h1, h2, h3⟩ hK
    have hlt := lt_of_block h2
    have H1 := Lib.hid h1
    have H2 := Lib.hid h2
    have H3 := Lib.hid h3
    have HKD := Lib.hid hK
    clear h1 h2 h3 hK
    gi_wp2_with fail
    refine ⟨trivial, ?_⟩
    refine (callsIn_wide.2 (CH.out _)).mono ?_
    rintro e w3 ⟨he, hb3⟩
    have hr3 := (hb3.block _ hlt).trans H2.out
    have c3 := cell_of_one hr3
    have f3 := free_of_one hr3
    have HR3 := Lib.hid hr3
    have HB3 := Lib.hid (H3.out.trans (hb3.mono H3.out.size))
    have HKD3 := Lib.hid ((hb3.block _ (Array.getElem?_eq_some_iff.1 HKD.out).1).trans HKD.out)
    clear hb3 hr3
    cases hd : errL s.data.toList with
    | none =>
      rw [hd] at he
      subst he
      have HD := Lib.hid hd
      clear hd
      gi_wp2
      have hK' : (w3.setCell ⟨w.heap.size, 0, none⟩ (.int .i64 (-1))).heap[D]? = some (.deferred (some [])) := (Below.heap_setCell _ _ _ _ (by show D ≠ w.heap.size; omega)).trans HKD3.out
      refine ⟨by simp, .inl ⟨_, _, rfl, run_takeDeferred hK', ?_⟩⟩
      have hc5 : ((w3.setCell ⟨w.heap.size, 0, none⟩ (.int .i64 (-1))).putObj D (.deferred none)).cell? ⟨w.heap.size, 0, none⟩ = some (.int .i64 (-1)) := cell_of_one ((World.putObj_heap_other (by omega)).trans (one_setCell HR3.out))
      have hb5 := HB3.out.setCell (p := ⟨w.heap.size, 0, none⟩) (Nat.le_refl _) (.int .i64 (-1))
      exact ⟨.int .i64 (-1), by simp [results, Tryz.f34, go_sem, hc5], by rw [badI_none (hidL_none H1.out) HD.out], hb5.trans ((kept_put _ D _).toBelow (fun k e => by have e' : k = D := e; omega) hb5.size)⟩
    | some a =>
      rw [hd] at he
      obtain ⟨c, hc, rfl⟩ := he
      have hcb : (c != 0) = true := by simp [hc]
      have HD := Lib.hid hd
      clear hd hc
      gi_wp2
      have hK' : (w3.setCell ⟨w.heap.size, 0, none⟩ (.int .i64 (a : Nat))).heap[D]? = some (.deferred (some [])) := (Below.heap_setCell _ _ _ _ (by show D ≠ w.heap.size; omega)).trans HKD3.out
      refine ⟨by simp, .inl ⟨_, _, rfl, run_takeDeferred hK', ?_⟩⟩
      have hc5 : ((w3.setCell ⟨w.heap.size, 0, none⟩ (.int .i64 (a : Nat))).putObj D (.deferred none)).cell? ⟨w.heap.size, 0, none⟩ = some (.int .i64 (a : Nat)) := cell_of_one ((World.putObj_heap_other (by omega)).trans (one_setCell HR3.out))
      have hb5 := HB3.out.setCell (p := ⟨w.heap.size, 0, none⟩) (Nat.le_refl _) (.int .i64 (a : Nat))
      exact ⟨.int .i64 (a : Nat), by simp [results, Tryz.f34, go_sem, hc5], by rw [badI_err (hidL_none H1.out) HD.out], hb5.trans ((kept_put _ D _).toBelow (fun k e => by have e' : k = D := e; omega) hb5.size)⟩
  case stop =>
    rintro D c pre W hD hpre ⟨rfl, ⟨a, h1, h2⟩, h3⟩ hK
    gi_wp2
    refine ⟨by simp, .inl ⟨_, _, rfl, run_takeDeferred hK, ?_⟩⟩
    have hc5 : (W.putObj D (.deferred none)).cell? ⟨w.heap.size, 0, none⟩ = some (.int .i64 a) := cell_of_one ((World.putObj_heap_other (by omega)).trans h2)
    exact ⟨.int .i64 a, by simp [results, Tryz.f34, go_sem, hc5], by rw [badI_hid h1], h3.trans ((kept_put _ D _).toBelow (fun k e => by have e' : k = D := e; omega) h3.size)⟩
end Go.Proofs.YteecmcphbehfgaaGreatDoor
