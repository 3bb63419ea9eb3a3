/- Predicates by name; Without and Get, by the program and by the document, over this translation.
   Conditions: names and bodies of at most 1000000 bytes. -/
import Derived.Test.YtknamddpflkifaaG19
import Derived.Laws.EntriesVeiled
namespace Go.Proofs.Ytknamddpflkifaa
open Go.RowKit Go.Lib

theorem one_cell {w : World} {p : Nat} {x : Value} {T : TypeId} (h : w.heap[p]? = some (.cells #[x] T (0, 0))) : w.cell? ⟨p, 0, none⟩ = some x := by rw [Lib.cell_of_heap h]; rfl
theorem own_base {B B' sz n : Nat} {E : TypeId} {v : Value} {xs : List Value} {w : World} (h : w.ownsRow B E sz v n xs) (hB : B' ≤ B) : w.ownsRow B' E sz v n xs := by
  refine ⟨h.1, ?_⟩
  rcases h.2 with h0 | ⟨g, cap, cur, he, hBg, hr⟩
  · exact .inl h0
  · exact .inr ⟨g, cap, cur, he, Nat.le_trans hB hBg, hr⟩
theorem RowPost.base {E : TypeId} {G : List (List UInt8 × List UInt8)} {w W w' : World} {e : Ending} (h : RowPost E G W e w') (hb : Below w.heap.size w W) : RowPost E G w e w' := by
  obtain ⟨v, he, hown, hb'⟩ := h
  exact ⟨v, he, own_base hown hb.size, hb.trans (hb'.mono hb.size)⟩

/-! ### the predicate by name -/
set_option maxHeartbeats 1000000 in
theorem named1_any (b : Nat) (name : ByteArray) (fn fb : List UInt8) (W : World) (hc : W.cell? ⟨b, 0, none⟩ = some (.string name)) (h1 : fn.length ≤ 1000000) (hn : name.size ≤ 9223372036854775807) :
    Calls Try.prog 79 #[.agg #[strV fn, strV fb], .pointer (some ⟨b, 0, none⟩)] W fun e w' => e = .returned (.bool (sameB fn name.data.toList)) ∧ Below W.heap.size W w' := by
  have CE := fun w => equalFold_any (bsOf fn) name w (by rw [bsOf_size]; omega) hn
  rw [bsOf_data] at CE
  have HCE := Lib.hid CE
  have hb := World.block_lt_of_cell? W _ hc
  clear CE
  unfold strV
  go_enter Try.func79, Try.ntmps79
  go_wp2_with fail
  refine (HCE.out _).mono ?_
  rintro e w1 ⟨rfl, hb1⟩
  have HB1 := Lib.hid (((Below.refl W.heap.size W).alloc (Nat.le_refl _) _).trans (hb1.mono (by simp)))
  clear hb1
  go_wp2
  go_ret
  exact ⟨rfl, HB1.out⟩
theorem pred_named {b : Nat} {name : ByteArray} {w : World} (hc : w.cell? ⟨b, 0, none⟩ = some (.string name)) (hn : name.size ≤ 9223372036854775807) :
    PredIn 79 #[.pointer (some ⟨b, 0, none⟩)] (fun f => sameB f.1 name.data.toList) w := by
  intro W hW fn fb h1 _
  exact named1_any b name fn fb W (((bcell hW).1 _ _ (World.block_lt_of_cell? w _ hc)).trans hc) h1 hn
theorem callF_named (args : Array Value) (w : World) : (callFunc 79 args).run Try.prog w = .ok (.enter 79 args) w := by
  exact enters_of Try.func79 (by kernel_rfl) rfl args w
theorem callF_without (args : Array Value) (w : World) : (callFunc 59 args).run Try.prog w = .ok (.enter 59 args) w :=
  enters_of Try.func59 (by kernel_rfl) rfl args w
set_option maxHeartbeats 1000000 in
theorem without1_any (c b : Nat) (name : ByteArray) (fn fb : List UInt8) (W : World) (hf : W.cell? ⟨c, 0, none⟩ = some (.func (.func 79) #[] #[.pointer (some ⟨b, 0, none⟩)])) (hc : W.cell? ⟨b, 0, none⟩ = some (.string name)) (h1 : fn.length ≤ 1000000) (hn : name.size ≤ 9223372036854775807) :
    Calls Try.prog 59 #[.agg #[strV fn, strV fb], .pointer (some ⟨c, 0, none⟩)] W fun e w' => e = .returned (.bool (!sameB fn name.data.toList)) ∧ Below W.heap.size W w' := by
  have hb := World.block_lt_of_cell? W _ hc
  have hb2 := World.block_lt_of_cell? W _ hf
  have CE := Lib.hid (named1_any b name fn fb (W.alloc (.cells #[strV fn, strV fb] 28)) ((((Kept.refl (fun _ => False) W).alloc _).cell (p := ⟨b, 0, none⟩) hb (fun f => f)).trans hc) h1 hn)
  have e79 := callF_named
  unfold strV at CE ⊢
  go_enter Try.func59, Try.ntmps59
  go_wp2_with fail
  refine CE.out.mono ?_
  rintro e w1 ⟨rfl, hb1⟩
  have HB1 := Lib.hid (((Below.refl W.heap.size W).alloc (Nat.le_refl _) _).trans (hb1.mono (by simp)))
  clear hb1
  go_wp2
  go_ret
  exact ⟨rfl, HB1.out⟩
theorem pred_without {c b : Nat} {name : ByteArray} {w : World} (hf : w.cell? ⟨c, 0, none⟩ = some (.func (.func 79) #[] #[.pointer (some ⟨b, 0, none⟩)])) (hc : w.cell? ⟨b, 0, none⟩ = some (.string name)) (hn : name.size ≤ 9223372036854775807) :
    PredIn 59 #[.pointer (some ⟨c, 0, none⟩)] (fun f => !sameB f.1 name.data.toList) w := by
  intro W hW fn fb h1 _
  exact without1_any c b name fn fb W (((bcell hW).1 _ _ (World.block_lt_of_cell? w _ hf)).trans hf) (((bcell hW).1 _ _ (World.block_lt_of_cell? w _ hc)).trans hc) h1 hn
theorem named_any (name : ByteArray) (w : World) : Calls Try.prog 57 #[.string name] w fun e w' => e = .returned (.func (.func 79) #[] #[.pointer (some ⟨w.heap.size, 0, none⟩)]) ∧ w' = w.alloc (.cells #[.string name] 9) := by
  go_enter Try.func57, Try.ntmps57
  go_wp2
  go_ret
  exact ⟨rfl, rfl⟩

/-- The fields with other names. -/
def withoutF (name : List UInt8) (fs : List (List UInt8 × List UInt8)) : List (List UInt8 × List UInt8) := fs.filter fun f => !sameB f.1 name
/-- The fields with a name. -/
def withF (name : List UInt8) (fs : List (List UInt8 × List UInt8)) : List (List UInt8 × List UInt8) := fs.filter fun f => sameB f.1 name
def getF (name : List UInt8) (fs : List (List UInt8 × List UInt8)) : List UInt8 × Nat :=
  match withF name fs with
  | [] => ([], 0)
  | f :: r => (f.2, r.length + 1)
theorem filter_big {p : List UInt8 × List UInt8 → Bool} {fs : List (List UInt8 × List UInt8)} {n m : Nat} (h : ∀ f ∈ fs, f.1.length ≤ n ∧ f.2.length ≤ m) : ∀ f ∈ fs.filter p, f.1.length ≤ n ∧ f.2.length ≤ m := fun f hf => h f (List.mem_filter.1 hf).1

set_option maxHeartbeats 1000000 in
theorem without_any {A : Option Addr} {cap : Nat} {fs : List (List UInt8 × List UInt8)} {w : World} (name : ByteArray) (h : FldsAt A fs w) (hz : ∀ f ∈ fs, f.1.length ≤ 1000000 ∧ f.2.length ≤ 1000000) (hn : fs.length ≤ 1000000) (hs : name.size ≤ 9223372036854775807) :
    Calls Try.prog 28 #[.slice A fs.length cap, .string name] w (RowPost 28 (withoutF name.data.toList fs) w) := by
  have HB0 := Lib.hid (((Below.refl w.heap.size w).alloc (Nat.le_refl _) (.cells #[.string name] 9)).alloc (by simp) (.cells #[.func (.func 79) #[] #[.pointer (some ⟨w.heap.size, 0, none⟩)]] 82))
  have b0 : ((w.alloc (.cells #[.string name] 9)).alloc (.cells #[.func (.func 79) #[] #[.pointer (some ⟨w.heap.size, 0, none⟩)]] 82)).heap[w.heap.size]? = some (.cells #[.string name] 9 (0, 0)) := heap_old_at (heap_new_at rfl _) _
  have b1 : ((w.alloc (.cells #[.string name] 9)).alloc (.cells #[.func (.func 79) #[] #[.pointer (some ⟨w.heap.size, 0, none⟩)]] 82)).heap[w.heap.size + 1]? = some (.cells #[.func (.func 79) #[] #[.pointer (some ⟨w.heap.size, 0, none⟩)]] 82 (0, 0)) := heap_new_at (by simp) _
  have CS := Lib.hid (((selected_any (cap := cap) (h.below HB0.out) hz hn (pred_without (one_cell b1) (one_cell b0) hs) callF_without).mono fun e w' h => RowPost.base h HB0.out))
  obtain ⟨nf, hnf⟩ : ∃ nf, fs.length = nf := ⟨_, rfl⟩
  rw [hnf] at CS ⊢
  clear h hz hn b0 b1 hnf HB0
  go_enter Try.func28, Try.ntmps28
  go_wp2_with fail
  refine (named_any name _).mono ?_
  rintro e w1 ⟨rfl, hw1⟩
  subst hw1
  go_wp2_with fail
  refine CS.out.mono ?_
  rintro e w2 ⟨v, rfl, hown, hb⟩
  have HO := Lib.hid hown
  have HB := Lib.hid hb
  obtain ⟨A3, cap3, rfl⟩ := own_shape2 hown
  clear hown hb
  go_wp2
  go_ret
  exact ⟨_, rfl, HO.out, HB.out⟩

set_option maxHeartbeats 1000000 in
theorem get_any {A : Option Addr} {cap : Nat} {fs : List (List UInt8 × List UInt8)} {w : World} (name : ByteArray) (h : FldsAt A fs w) (hz : ∀ f ∈ fs, f.1.length ≤ 1000000 ∧ f.2.length ≤ 1000000) (hn : fs.length ≤ 1000000) (hs : name.size ≤ 9223372036854775807) :
    Calls Try.prog 30 #[.slice A fs.length cap, .string name] w fun e w' => e = .returned (.tuple #[strV (getF name.data.toList fs).1, .int .i64 (getF name.data.toList fs).2]) ∧ Below w.heap.size w w' := by
  have HB0 := Lib.hid ((Below.refl w.heap.size w).alloc (Nat.le_refl _) (.cells #[.string name] 9))
  have b0 : (w.alloc (.cells #[.string name] 9)).heap[w.heap.size]? = some (.cells #[.string name] 9 (0, 0)) := heap_new_at rfl _
  have CS := Lib.hid (((selected_any (cap := cap) (h.below HB0.out) hz hn (pred_named (one_cell b0) hs) callF_named).mono fun e w' h => RowPost.base h HB0.out))
  have HG : Hid ((withF name.data.toList fs = [] ∧ getF name.data.toList fs = ([], 0)) ∨ ∃ f r, withF name.data.toList fs = f :: r ∧ getF name.data.toList fs = (f.2, r.length + 1)) := Lib.hid (by
    unfold getF
    cases withF name.data.toList fs with
    | nil => exact .inl ⟨rfl, rfl⟩
    | cons f r => exact .inr ⟨f, r, rfl, rfl⟩)
  have hfl : (withF name.data.toList fs).length ≤ 1000000 := Nat.le_trans (List.length_filter_le _ _) hn
  obtain ⟨R, hR⟩ : ∃ R, withF name.data.toList fs = R := ⟨_, rfl⟩
  have hR' : fs.filter (fun f => sameB f.1 name.data.toList) = R := hR
  rw [hR'] at CS
  rw [hR] at HG hfl
  obtain ⟨nf, hnf⟩ : ∃ nf, fs.length = nf := ⟨_, rfl⟩
  rw [hnf] at CS ⊢
  clear h hz hn b0 hnf HB0 hR hR'
  rcases HG.out with ⟨rfl, he⟩ | ⟨⟨fn, fb⟩, r, rfl, he⟩
  · have HE := Lib.hid he
    clear he HG
    go_enter Try.func30, Try.ntmps30
    go_wp2_with fail
    refine (named_any name _).mono ?_
    rintro e w1 ⟨rfl, hw1⟩
    subst hw1
    go_wp2_with fail
    refine CS.out.mono ?_
    rintro e w2 ⟨v, rfl, hown, hb⟩
    have HB := Lib.hid hb
    obtain ⟨A3, cap3, rfl⟩ := own_shape2 hown
    clear hown hb
    go_wp2
    go_ret2
    exact ⟨by rw [HE.out]; rfl, HB.out⟩
  · have HE := Lib.hid he
    clear he HG
    go_enter Try.func30, Try.ntmps30
    go_wp2_with fail
    refine (named_any name _).mono ?_
    rintro e w1 ⟨rfl, hw1⟩
    subst hw1
    go_wp2_with fail
    refine CS.out.mono ?_
    rintro e w2 ⟨v, rfl, hown, hb⟩
    have HB := Lib.hid hb
    obtain ⟨g, cap3, rfl, hg, hc⟩ := own_fields hown (by simp)
    obtain ⟨q0, q1⟩ := hc 0 (by simp)
    have k1 : w2.cell? ⟨g, 1, none⟩ = some (.string (bsOf fb)) := q1
    have hl : ((fn, fb) :: r).length = r.length + 1 := rfl
    rw [hl] at hfl ⊢
    have hnz : (((r.length + 1 : Nat) : Int) == 0) = false := beq_eq_false_iff_ne.2 (by omega)
    have hnz' : (((r.length : Int) + 1) == 0) = false := beq_eq_false_iff_ne.2 (by omega)
    clear hown hb hc q0 q1 hl
    go_wp2
    go_ret2
    exact ⟨by rw [HE.out]; rfl, HB.out⟩
end Go.Proofs.Ytknamddpflkifaa
