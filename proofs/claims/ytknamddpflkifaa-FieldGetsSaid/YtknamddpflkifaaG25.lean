/- Names by the program (a map) and by the document; Same of strings, over this translation.
   Conditions: names and bodies of at most 1000000 bytes. -/
import Derived.Test.YtknamddpflkifaaG24
import Derived.Maps.Views
import Derived.Maps.OwnOps
namespace Go.Proofs.Ytknamddpflkifaa
open Go.RowKit Go.Lib

/-! ### plain -/
/-- One field more: its name in lower case, if it is new. -/
def nameStep (acc : List (List UInt8)) (f : List UInt8 × List UInt8) : List (List UInt8) := if acc.contains (lowL f.1) then acc else acc ++ [lowL f.1]
def namesF (fs : List (List UInt8 × List UInt8)) : List (List UInt8) := fs.foldl nameStep []
theorem namesF_snoc (l : List (List UInt8 × List UInt8)) (f : List UInt8 × List UInt8) : namesF (l ++ [f]) = nameStep (namesF l) f := by unfold namesF; rw [List.foldl_append]; rfl
theorem contains_snoc (l : List (List UInt8)) (x y : List UInt8) : (l ++ [x]).contains y = (l.contains y || (x == y)) := by
  by_cases h : x = y
  · subst h; simp
  · have h' : ¬ y = x := fun e => h e.symm
    simp [h, h']
theorem names_rev (P : List (List UInt8 × List UInt8) → Prop) (h0 : P []) (h1 : ∀ l f, P l → P (l ++ [f])) : ∀ l, P l := by
  intro l
  have : ∀ (r : List (List UInt8 × List UInt8)), P r.reverse := by
    intro r
    induction r with
    | nil => exact h0
    | cons f r ih => rw [List.reverse_cons]; exact h1 _ _ ih
  have := this l.reverse
  rwa [List.reverse_reverse] at this
theorem namesF_contains (x : List UInt8) : ∀ (l : List (List UInt8 × List UInt8)), (namesF l).contains x = l.any (fun f => lowL f.1 == x) := by
  refine names_rev _ rfl fun l f ih => ?_
  rw [namesF_snoc, List.any_append, ← ih]
  unfold nameStep
  by_cases h : (namesF l).contains (lowL f.1) = true
  · rw [if_pos h]
    by_cases e : lowL f.1 = x
    · rw [← e, h]; simp
    · simp [e]
  · rw [if_neg h, contains_snoc]
    simp
theorem namesF_small : ∀ (l : List (List UInt8 × List UInt8)), (namesF l).length ≤ l.length ∧ ∀ s ∈ namesF l, ∃ f ∈ l, s = lowL f.1 := by
  refine names_rev _ ⟨Nat.le_refl _, fun s hs => by cases hs⟩ fun l f ih => ?_
  rw [namesF_snoc]
  unfold nameStep
  split
  · exact ⟨by rw [List.length_append]; have := ih.1; omega, fun s hs => by obtain ⟨g, hg, e⟩ := ih.2 s hs; exact ⟨g, by simp [hg], e⟩⟩
  · refine ⟨by rw [List.length_append, List.length_append]; have := ih.1; simp; omega, fun s hs => ?_⟩
    rcases List.mem_append.1 hs with hs | hs
    · obtain ⟨g, hg, e⟩ := ih.2 s hs
      exact ⟨g, by simp [hg], e⟩
    · rw [List.mem_singleton] at hs
      exact ⟨f, by simp, hs⟩
theorem lowL_len (l : List UInt8) : (lowL l).length = l.length := by simp [lowL]
theorem getF_zero (name : List UInt8) (l : List (List UInt8 × List UInt8)) : (getF name l).2 = 0 ↔ (namesF l).contains (lowL name) = false := by
  rw [namesF_contains]
  unfold getF withF
  constructor
  · intro h
    cases hl : l.filter (fun f => sameB f.1 name) with
    | nil =>
      rw [List.any_eq_false]
      intro f hf e
      have hm : f ∈ l.filter (fun f => sameB f.1 name) := List.mem_filter.2 ⟨hf, by unfold sameB; exact decide_eq_true (by simpa using e)⟩
      rw [hl] at hm
      cases hm
    | cons f r => rw [hl] at h; simp at h
  · intro h
    have hl : l.filter (fun f => sameB f.1 name) = [] := by
      rw [List.filter_eq_nil_iff]
      intro f hf e
      rw [List.any_eq_false] at h
      refine h f hf ?_
      unfold sameB at e
      simpa using e
    rw [hl]

/-! ### the map of the names seen -/
def seenD (acc : List (List UInt8)) : DataW Unit := acc.foldl (fun D s => D.put (.string s) (.lit (.bool true))) (.map [])
theorem seenD_snoc (acc : List (List UInt8)) (s : List UInt8) : seenD (acc ++ [s]) = (seenD acc).put (.string s) (.lit (.bool true)) := by unfold seenD; rw [List.foldl_append]; rfl
theorem acc_rev (P : List (List UInt8) → Prop) (h0 : P []) (h1 : ∀ l f, P l → P (l ++ [f])) : ∀ l, P l := by
  intro l
  have : ∀ (r : List (List UInt8)), P r.reverse := by
    intro r
    induction r with
    | nil => exact h0
    | cons f r ih => rw [List.reverse_cons]; exact h1 _ _ ih
  have := this l.reverse
  rwa [List.reverse_reverse] at this
theorem seenD_at (x : List UInt8) : ∀ (acc : List (List UInt8)), Maps.IsMap (seenD acc) ∧ (seenD acc).atKey (.string x) (.lit (.bool false)) = .lit (.bool (acc.contains x)) := by
  refine acc_rev _ ⟨Maps.isMap_empty, rfl⟩ fun acc s ih => ?_
  rw [seenD_snoc, contains_snoc]
  refine ⟨ih.1.put _ _, ?_⟩
  by_cases e : s = x
  · subst e
    rw [Maps.atKey_put_same ih.1 (by trivial)]
    simp
  · rw [Maps.atKey_put_other (by intro h; injection h with h; exact e h.symm), ih.2]
    have : (s == x) = false := beq_eq_false_iff_ne.2 e
    rw [this, Bool.or_false]
theorem plain_bool_inv {P : Program} {e : TypeId} (he : P.underlying e = some .bool) {v : Value} {b : Bool} {ps : List MemPlace} (h : plainElem (H := Unit) P e v = some (.lit (.bool b), ps)) : v = .bool b := by
  unfold plainElem at h
  rw [he] at h
  split at h
  · injection h with h; injection h with h1 h2; injection h1 with h1; injection h1 with h1; rw [h1]
  · rename_i heq; cases heq
  · rename_i heq; cases heq
  · cases h
def SeenAt (mb n : Nat) (acc : List (List UInt8)) (w : World) : Prop := w.ownsMap Try.prog 9 (plainElem Try.prog 4) mb n (seenD acc)
theorem SeenAt.look {mb n : Nat} {acc : List (List UInt8)} {w : World} (h : SeenAt mb n acc w) (x : List UInt8) (hx : x.length ≤ maxLen) : (Instr.lookup 85 (.map (some mb)) (.string (bsOf x)) false).run Try.prog w = .ok (.bool (acc.contains x)) w := by
  obtain ⟨v, ps, hrun, hv⟩ := World.ownsMap.lookup h (Maps.string_keyed Try.underlying9) Try.underlying85 (z := .bool false) (by kernel_rfl) (plainElem_bool Try.underlying4 false) (Go.WideMaps.keyOf_string_mk Try.underlying9 (s := bsOf x) (by rw [bsOf_size]; exact hx))
  rw [bsOf_data, (seenD_at x acc).2] at hv
  rw [hrun, plain_bool_inv Try.underlying4 hv]
theorem SeenAt.put {mb n : Nat} {acc : List (List UInt8)} {w : World} (h : SeenAt mb n acc w) (x : List UInt8) (hx : x.length ≤ maxLen) (hn : n < maxLen) : ∃ w', (Instr.mapUpdate 85 (.map (some mb)) (.string (bsOf x)) (.bool true)).run Try.prog w = .ok () w' ∧ SeenAt mb (n + 1) (acc ++ [x]) w' ∧ w.grownBy w' (some mb) := by
  obtain ⟨w', hrun, h1, h2⟩ := World.ownsMap.update h (Maps.string_keyed Try.underlying9) Try.underlying85 hn (Go.WideMaps.keyOf_string_mk Try.underlying9 (s := bsOf x) (by rw [bsOf_size]; exact hx)) (plainElem_bool Try.underlying4 true)
  refine ⟨w', hrun, ?_, h2⟩
  unfold SeenAt
  rw [seenD_snoc]
  rw [bsOf_data] at h1
  exact h1
theorem SeenAt.kept {F : Nat → Prop} {mb n : Nat} {acc : List (List UInt8)} {w w' : World} (h : SeenAt mb n acc w) (hk : Kept F w w') (hF : ¬ F mb) : SeenAt mb n acc w' := by
  have hlt := World.ownsMap.lt h
  obtain ⟨es, clock, hb, F', hs, hD⟩ := h
  exact ⟨es, clock, (hk.block mb hlt hF).trans hb, F', hs, hD⟩

/-- A row of strings handed back. -/
def StrPost (ss : List (List UInt8)) (w : World) (e : Ending) (w' : World) : Prop :=
  ∃ A cap, e = .returned (.slice A ss.length cap) ∧ StrsAt A ss w' ∧ Below w.heap.size w w'
/-- What holds at the head of a round of Names. -/
def NmRel (fs : List (List UInt8 × List UInt8)) (w : World) (v3 v11 : Value) (wr : World) : Prop :=
  ∃ k : Nat, k ≤ fs.length ∧ v11 = .int .i64 k ∧ wr.ownsRow (w.heap.size + 1) 9 1 v3 (namesF (fs.take k)).length ((namesF (fs.take k)).map strV) ∧ SeenAt w.heap.size k (namesF (fs.take k)) wr ∧ Below w.heap.size w wr ∧ w.heap.size + 1 ≤ wr.heap.size

set_option maxRecDepth 10000 in
set_option maxHeartbeats 2000000 in
theorem names_any' {A : Option Addr} {cap : Nat} {fs : List (List UInt8 × List UInt8)} {w : World} (h : FldsAt A fs w) (hz : ∀ f ∈ fs, f.1.length ≤ 1000000 ∧ f.2.length ≤ 1000000) (hn : fs.length ≤ 1000000) :
    Calls Try.prog 33 #[.slice A fs.length cap] w (StrPost (namesF fs) w) := by
  obtain ⟨i0, hi, hz0, hz1, hz2⟩ := info_parts Try.str_info
  have HI := Lib.hid hi
  have HZ0 := Lib.hid hz0
  have HZ1 := Lib.hid hz1
  have HZ2 := Lib.hid hz2
  clear hi hz0 hz1 hz2
  have H := Lib.hid h
  have HZ := Lib.hid hz
  have hmm := @run_makeMap Try.prog
  have hml : Hid (1000000 ≤ maxLen) := Lib.hid (by decide)
  obtain ⟨nf, hnf⟩ : ∃ nf, fs.length = nf := ⟨_, rfl⟩
  have HNF := Lib.hid hnf
  rw [hnf] at hn ⊢
  clear h hz hnf
  go_enter Try.func33, Try.ntmps33
  go_wp2
  go_loopw [3, 6, 7, 11] (fun a _ _ v wr => NmRel fs w a v wr) (fun _ _ _ v _ => nf - (RowKit.intOf v).toNat)
  case atStart => exact ⟨0, Nat.zero_le _, rfl, ⟨rfl, .inl ⟨rfl, rfl⟩⟩, World.ownsMap_made _ _ _ _, (Below.refl _ _).alloc (Nat.le_refl _) _, by simp⟩
  case round =>
    obtain ⟨k, hk, rfl, hown, hsn, hbl, hwz⟩ := hrel
    rw [HNF.out] at hk
    have HO := Lib.hid hown
    have HSN := Lib.hid hsn
    have HBL := Lib.hid hbl
    have hwr := hbl.size
    obtain ⟨A3, cap3, rfl⟩ := own_shape hown
    obtain ⟨acc, hacc⟩ : ∃ acc, namesF (fs.take k) = acc := ⟨_, rfl⟩
    have HACC := Lib.hid hacc
    obtain ⟨na, hna⟩ : ∃ na, acc.length = na := ⟨_, rfl⟩
    have HNA := Lib.hid hna
    have hna2 : na ≤ 1000000 := by
      rw [← hna, ← hacc]
      have := (namesF_small (fs.take k)).1
      rw [List.length_take] at this
      omega
    rw [hacc] at HO HSN ⊢
    rw [hna] at HO ⊢
    clear hown hsn hbl hacc hna
    by_cases hlt : k < nf
    · have hk' : k < fs.length := by rw [HNF.out]; exact hlt
      obtain ⟨ad, rfl, hb0⟩ := H.out.at_ (by omega)
      obtain ⟨c0, c1⟩ := (H.out.kept (kept_of_below HBL.out) (fun _ _ f => f)).cell k ad hk' rfl
      obtain ⟨z1, z2⟩ := HZ.out fs[k] (List.getElem_mem hk')
      have hts : Hid (fs.take (k + 1) = fs.take k ++ [fs[k]]) := Lib.hid (List.take_succ_eq_append_getElem hk')
      obtain ⟨⟨fn, fb⟩, hfk⟩ : ∃ q, fs[k] = q := ⟨_, rfl⟩
      rw [hfk] at c0 c1 z1 z2 hts
      simp only at c0 c1 z1 z2
      have CL := fun W => lower_any (bsOf fn) W (by rw [bsOf_size]; omega)
      rw [bsOf_data] at CL
      have HCL := Lib.hid CL
      have hll : (lowL fn).length ≤ maxLen := by rw [lowL_len]; exact Nat.le_trans z1 hml.out
      have HLL := Lib.hid hll
      unfold strV at c0 c1 HCL
      clear z1 z2 hfk CL hll
      have i1 : (0 : Int) ≤ (k : Int) := Int.natCast_nonneg _
      cases hpp : acc.contains (lowL fn)
      · have hfil : Hid (namesF (fs.take (k + 1)) = acc ++ [lowL fn]) := Lib.hid (by rw [hts.out, namesF_snoc, HACC.out]; unfold nameStep; rw [if_neg (by rw [hpp]; decide)])
        have HPP := Lib.hid hpp
        clear hpp
        go_wp2_with fail
        refine (HCL.out _).mono ?_
        rintro e w1 ⟨rfl, hb1⟩
        have hk1 : Kept (fun _ => False) wr w1 := ((Kept.refl (fun _ => False) wr).alloc _).trans (kept_of_below hb1) (fun _ _ f => f)
        have HK1 := Lib.hid hk1
        have hz1 : wr.heap.size < w1.heap.size := by have := hb1.size; simp at this; omega
        have HO1 := Lib.hid (own_kept HO.out hk1 (fun _ _ f => f))
        have HS1 := Lib.hid (HSN.out.kept hk1 (fun f => f))
        have hlook := HS1.out.look (lowL fn) HLL.out
        rw [HPP.out] at hlook
        obtain ⟨w2, hput, hs2, hg2⟩ := HS1.out.put (lowL fn) HLL.out (Nat.lt_of_lt_of_le (by omega) hml.out)
        have HS2 := Lib.hid hs2
        have hk2 := (Kept.refl (fun j => (some w.heap.size : Option Nat) = some j) w1).grown hg2 (fun j _ e => e)
        have HK2 := Lib.hid hk2
        have HO2 := Lib.hid (own_kept HO1.out hk2 (fun j e f => by have h1 := (own_lt HO1.out j e).1; injection f with f; omega))
        have hz2 : w1.heap.size ≤ w2.heap.size := hk2.size
        have HBL2 := Lib.hid ((HBL.out.trans (hk1.below (fun _ _ _ f => f) hwr)).trans (hk2.toBelow (B := w.heap.size) (fun j f => by injection f with f; omega) (by omega)))
        clear hb1 hk1 hs2 hg2 hk2
        go_wp2_with (at_builtin; refine wpList_append_own _ rfl _ _ 36 rfl (w.heap.size + 1) 9 i0 (.string ⟨#[]⟩) 1 16 Try.underlying36 HI.out HZ0.out HZ1.out HZ2.out rfl (by decide) _ _ _ rfl (own_kept HO2.out ((Kept.refl (fun _ => False) w2).alloc _) (fun _ _ f => f)) ⟨w2.heap.size, 0, none⟩ 1 1 [.string (bsOf (lowL fn))] rfl rfl (new_cells w2 _ _) (by intro u hu; rw [List.mem_singleton.1 hu]; rfl) (by unfold maxLen; omega) (by omega) (by simp; omega) ?_; intro v' w3 hown' hgrow hnil; clear hnil)
        have HO3 := Lib.hid hown'
        have hk3 := ((Kept.refl (fun j => Value.ownBlock (.slice A3 na cap3) = some j) w2).alloc (.cells #[.string (bsOf (lowL fn))] 9)).grown hgrow (fun j _ e => e)
        have HS3 := Lib.hid (HS2.out.kept hk3 (fun f => by have h1 := (own_lt HO2.out _ f).1; omega))
        have HB3 := Lib.hid (HBL2.out.trans (hk3.toBelow (B := w.heap.size) (fun j f => by have h1 := (own_lt HO2.out j f).1; omega) (by omega)))
        have hz3 : w2.heap.size ≤ w3.heap.size := hk3.size
        obtain ⟨A4, cap4, rfl⟩ := own_shape hown'
        clear hown' hgrow hk3
        go_wp2
        go_roundw
        case rel =>
          refine ⟨k + 1, by rw [HNF.out]; omega, by go_num, ?_, ?_, HB3.out, by omega⟩
          · have := HO3.out
            rw [hfil.out, List.length_append, HNA.out, List.map_append]
            exact this
          · rw [hfil.out]; exact HS3.out
        case measure => simp [RowKit.intOf]; omega
      · have hfil : Hid (namesF (fs.take (k + 1)) = acc) := Lib.hid (by rw [hts.out, namesF_snoc, HACC.out]; unfold nameStep; rw [if_pos hpp])
        have HPP := Lib.hid hpp
        clear hpp
        go_wp2_with fail
        refine (HCL.out _).mono ?_
        rintro e w1 ⟨rfl, hb1⟩
        have hk1 : Kept (fun _ => False) wr w1 := ((Kept.refl (fun _ => False) wr).alloc _).trans (kept_of_below hb1) (fun _ _ f => f)
        have hz1 : wr.heap.size < w1.heap.size := by have := hb1.size; simp at this; omega
        have HO1 := Lib.hid (own_kept HO.out hk1 (fun _ _ f => f))
        have HS1 := Lib.hid (HSN.out.kept hk1 (fun f => f))
        have hlook := HS1.out.look (lowL fn) HLL.out
        rw [HPP.out] at hlook
        have HBL2 := Lib.hid (HBL.out.trans (hk1.below (fun _ _ _ f => f) hwr))
        clear hb1 hk1
        go_wp2
        go_roundw
        case rel =>
          refine ⟨k + 1, by rw [HNF.out]; omega, by go_num, by rw [hfil.out, HNA.out]; exact HO1.out, by rw [hfil.out]; exact World.ownsMap.mono HS1.out (by omega), HBL2.out, by omega⟩
        case measure => simp [RowKit.intOf]; omega
    · obtain rfl : k = nf := by omega
      have hE : Hid (acc = namesF fs) := Lib.hid (by rw [← HACC.out, List.take_of_length_le (by rw [HNF.out]; exact Nat.le_refl _)])
      have hsm : Hid (∀ s ∈ acc, s.length ≤ 9223372036854775807) := Lib.hid (by
        intro s hs
        rw [← HACC.out] at hs
        obtain ⟨f, hf, rfl⟩ := (namesF_small _).2 s hs
        rw [lowL_len]
        have := HZ.out f (List.mem_of_mem_take hf)
        omega)
      go_wp2
      go_ret
      refine ⟨A3, cap3, by rw [← hE.out, HNA.out]; rfl, ?_, HBL.out⟩
      rw [← hE.out]
      exact StrsAt.of_own (cap := cap3) (by rw [HNA.out]; exact HO.out) hsm.out
end Go.Proofs.Ytknamddpflkifaa
