/- Fields for which a predicate holds; predicates by name; With, Without and Get of the program over this translation.
   Conditions: names and bodies of at most 1000000 bytes. -/
import Derived.Test.YtknamddpflkifaaG18
import Derived.Test.YtknamddpflkifaaG14
namespace Go.Proofs.Ytknamddpflkifaa
open Go.RowKit Go.Lib

/-- A function value that tests fields: in every later world it computes p and turns nothing. -/
def PredIn (g : Nat) (lb : Array Value) (p : List UInt8 × List UInt8 → Bool) (w : World) : Prop :=
  ∀ (W : World), Below w.heap.size w W → ∀ fn fb : List UInt8, fn.length ≤ 1000000 → fb.length ≤ 1000000 → Calls Try.prog g (#[.agg #[strV fn, strV fb]] ++ lb) W fun e w' => e = .returned (.bool (p (fn, fb))) ∧ Below W.heap.size W w'
/-- What holds at the head of a round of selected. -/
def SelRel (fs : List (List UInt8 × List UInt8)) (p : List UInt8 × List UInt8 → Bool) (w : World) (v5 v10 : Value) (wr : World) : Prop :=
  ∃ k : Nat, k ≤ fs.length ∧ v10 = .int .i64 k ∧ wr.ownsRow w.heap.size 28 2 v5 ((fs.take k).filter p).length (cellsF ((fs.take k).filter p)) ∧ Below w.heap.size w wr

set_option maxRecDepth 10000 in
set_option maxHeartbeats 2000000 in
theorem selected_any {A : Option Addr} {cap g : Nat} {lb : Array Value} {p : List UInt8 × List UInt8 → Bool} {fs : List (List UInt8 × List UInt8)} {w : World} (h : FldsAt A fs w) (hz : ∀ f ∈ fs, f.1.length ≤ 1000000 ∧ f.2.length ≤ 1000000) (hn : fs.length ≤ 1000000)
    (hp : PredIn g lb p w) (eg : ∀ (args : Array Value) (w : World), (callFunc g args).run Try.prog w = .ok (.enter g args) w) :
    Calls Try.prog 58 #[.slice A fs.length cap, .func (.func g) #[] lb] w (RowPost 28 (fs.filter p) w) := by
  obtain ⟨i0, hi, hz0, hz1, hz2⟩ := info_parts Try.fld_info
  have HI := Lib.hid hi
  have HZ0 := Lib.hid hz0
  have HZ1 := Lib.hid hz1
  have HZ2 := Lib.hid hz2
  clear hi hz0 hz1 hz2
  have H := Lib.hid h
  have HZ := Lib.hid hz
  have HP := Lib.hid hp
  obtain ⟨nf, hnf⟩ : ∃ nf, fs.length = nf := ⟨_, rfl⟩
  have HNF := Lib.hid hnf
  rw [hnf] at hn ⊢
  clear h hz hp hnf
  go_enter Try.func58, Try.ntmps58
  go_wp2
  go_loopw [5, 7, 10] (fun a _ v wr => SelRel fs p w a v wr) (fun _ _ v _ => nf - (RowKit.intOf v).toNat)
  case atStart => exact ⟨0, Nat.zero_le _, rfl, ⟨rfl, .inl ⟨rfl, rfl⟩⟩, Below.refl _ _⟩
  case round =>
    obtain ⟨k, hk, rfl, hown, hbl⟩ := hrel
    rw [HNF.out] at hk
    have HO := Lib.hid hown
    have HBL := Lib.hid hbl
    have hwr := hbl.size
    obtain ⟨A3, cap3, rfl⟩ := own_shape2 hown
    obtain ⟨nq, hnq⟩ : ∃ nq, ((fs.take k).filter p).length = nq := ⟨_, rfl⟩
    have HNQ := Lib.hid hnq
    have hnq2 : nq ≤ 1000000 := by
      rw [← hnq]
      have h1 := List.length_filter_le p (fs.take k)
      rw [List.length_take] at h1
      omega
    rw [hnq] at HO ⊢
    clear hown hbl hnq
    by_cases hlt : k < nf
    · have hk' : k < fs.length := by rw [HNF.out]; exact hlt
      obtain ⟨ad, rfl, hb0⟩ := H.out.at_ (by omega)
      obtain ⟨c0, c1⟩ := (H.out.kept (kept_of_below HBL.out) (fun _ _ f => f)).cell k ad hk' rfl
      obtain ⟨z1, z2⟩ := HZ.out fs[k] (List.getElem_mem hk')
      have hts : Hid (fs.take (k + 1) = fs.take k ++ [fs[k]]) := Lib.hid (List.take_succ_eq_append_getElem hk')
      obtain ⟨⟨fn, fb⟩, hfk⟩ : ∃ q, fs[k] = q := ⟨_, rfl⟩
      rw [hfk] at c0 c1 z1 z2 hts
      simp only at c0 c1 z1 z2
      have CP := Lib.hid (HP.out (wr.alloc (.cells #[.string (bsOf fn), .string (bsOf fb)] 28)) (HBL.out.alloc hwr _) fn fb z1 z2)
      unfold strV at c0 c1 CP
      clear z1 z2 hfk
      have i1 : (0 : Int) ≤ (k : Int) := Int.natCast_nonneg _
      cases hpp : p (fn, fb)
      · have hfil : Hid ((fs.take (k + 1)).filter p = (fs.take k).filter p) := Lib.hid (by rw [hts.out, List.filter_append]; simp [hpp])
        rw [hpp] at CP
        clear hpp
        go_wp2_with (go_at_fn g; refine CP.out.mono ?_; rintro e w1 ⟨rfl, hb1⟩; have HB1 := Lib.hid hb1; clear hb1)
        go_roundw
        case rel =>
          have hk1 : Kept (fun _ => False) wr w1 := ((Kept.refl (fun _ => False) wr).alloc _).trans (kept_of_below HB1.out) (fun _ _ f => f)
          exact ⟨k + 1, by rw [HNF.out]; omega, by go_num, by rw [hfil.out, HNQ.out]; exact own_kept HO.out hk1 (fun _ _ f => f), HBL.out.trans (hk1.below (fun _ _ _ f => f) hwr)⟩
        case measure => simp [RowKit.intOf]; omega
      · have hfil : Hid ((fs.take (k + 1)).filter p = (fs.take k).filter p ++ [(fn, fb)]) := Lib.hid (by rw [hts.out, List.filter_append]; simp [hpp])
        rw [hpp] at CP
        clear hpp
        go_wp2_with fail
        refine CP.out.mono ?_
        rintro e w1 ⟨rfl, hb1⟩
        have HB1 := Lib.hid hb1
        obtain ⟨q0, q1, _, _⟩ := two_cells ((hb1.block wr.heap.size (by simp)).trans (heap_at_size rfl _))
        have hz1 : wr.heap.size < w1.heap.size := by have := hb1.size; simp at this; omega
        clear hb1
        have hk1 : Kept (fun _ => False) wr w1 := ((Kept.refl (fun _ => False) wr).alloc _).trans (kept_of_below HB1.out) (fun _ _ f => f)
        have HK1 := Lib.hid hk1
        have HO1 := Lib.hid (own_kept HO.out hk1 (fun _ _ f => f))
        have hw1 : w.heap.size ≤ w1.heap.size := by omega
        have HK0 := Lib.hid ((Kept.refl (fun _ => False) w1).alloc (.cells #[.string (bsOf fn), .string (bsOf fb)] 28))
        clear hk1
        go_wp2_with (at_builtin; refine wpList_append_lies _ rfl _ _ 39 rfl w.heap.size 28 i0 (.agg #[.string ⟨#[]⟩, .string ⟨#[]⟩]) 2 32 Try.underlying39 HI.out HZ0.out HZ1.out HZ2.out rfl (by decide) (.slice A3 nq cap3) nq _ rfl (own_kept HO1.out HK0.out (fun _ _ f => f)) ⟨w1.heap.size, 0, none⟩ 1 1 [.string (bsOf fn), .string (bsOf fb)] rfl rfl (new_cells2' _ _ _ _) (one_two _ _) (by decide) (by unfold maxLen; omega) (by omega) (by simp; omega) (w1.heap.size + 1) (by simp) ?_; intro g3 cap4 w3 hown3 hgrow3 hlies3 hlt3)
        have HO3 := Lib.hid hown3
        have HB3 := Lib.hid (HBL.out.trans (((HK1.out.mono (G := fun j => Value.ownBlock (.slice A3 nq cap3) = some j) (fun _ _ f => f.elim)).trans ((HK0.out.mono (G := fun j => Value.ownBlock (.slice A3 nq cap3) = some j) (fun _ _ f => f.elim)).grown hgrow3 (fun j _ e => e)) (fun _ _ f => f)).toBelow (fun j f => (own_lt HO.out j f).1) hwr))
        clear hown3 hgrow3 hlies3
        go_wp2
        go_roundw
        case rel =>
          refine ⟨k + 1, by rw [HNF.out]; omega, by go_num, ?_, HB3.out⟩
          have := HO3.out
          rw [hfil.out, List.length_append, HNQ.out, cellsF_append]
          exact this
        case measure => simp [RowKit.intOf]; omega
    · obtain rfl : k = nf := by omega
      go_wp2
      go_ret
      refine ⟨_, rfl, ?_, HBL.out⟩
      have e2 : fs.take k = fs := List.take_of_length_le (by rw [HNF.out]; exact Nat.le_refl _)
      rw [e2] at HO HNQ
      rw [HNQ.out]
      exact HO.out
end Go.Proofs.Ytknamddpflkifaa
