/- Without and Get by the document; With by the program, over this translation.
   Conditions: names and bodies of at most 1000000 bytes. -/
import Derived.Test.YtknamddpflkifaaG20
namespace Go.Proofs.Ytknamddpflkifaa
open Go.RowKit Go.Lib

/-- What holds at the head of a round of the document's Without. -/
def WoRel (fs : List (List UInt8 × List UInt8)) (name : List UInt8) (w : World) (v5 v6 : Value) (wr : World) : Prop :=
  ∃ k : Nat, k ≤ fs.length ∧ v6 = .int .i64 k ∧ wr.ownsRow w.heap.size 25 2 v5 (withoutF name (fs.take k)).length (cellsF (withoutF name (fs.take k))) ∧ Below w.heap.size w wr

set_option maxRecDepth 10000 in
set_option maxHeartbeats 2000000 in
theorem rwithout_any {A : Option Addr} {cap : Nat} {fs : List (List UInt8 × List UInt8)} {w : World} (name : ByteArray) (h : FldsAt A fs w) (hz : ∀ f ∈ fs, f.1.length ≤ 1000000 ∧ f.2.length ≤ 1000000) (hn : fs.length ≤ 1000000) (hs : name.size ≤ 9223372036854775807) :
    Calls Try.prog 27 #[.slice A fs.length cap, .string name] w (RowPost 25 (withoutF name.data.toList fs) w) := by
  obtain ⟨i0, hi, hz0, hz1, hz2⟩ := info_parts Try.rfl_info
  have HI := Lib.hid hi
  have HZ0 := Lib.hid hz0
  have HZ1 := Lib.hid hz1
  have HZ2 := Lib.hid hz2
  clear hi hz0 hz1 hz2
  have H := Lib.hid h
  have HZ := Lib.hid hz
  obtain ⟨nf, hnf⟩ : ∃ nf, fs.length = nf := ⟨_, rfl⟩
  have HNF := Lib.hid hnf
  rw [hnf] at hn ⊢
  clear h hz hnf
  go_enter Try.func27, Try.ntmps27
  go_wp2
  go_loopw [5, 6] (fun a v wr => WoRel fs name.data.toList w a v wr) (fun _ v _ => nf - (RowKit.intOf v).toNat)
  case atStart => exact ⟨0, Nat.zero_le _, rfl, ⟨rfl, .inl ⟨rfl, rfl⟩⟩, Below.refl _ _⟩
  case round =>
    obtain ⟨k, hk, rfl, hown, hbl⟩ := hrel
    rw [HNF.out] at hk
    have HO := Lib.hid hown
    have HBL := Lib.hid hbl
    have hwr := hbl.size
    obtain ⟨A3, cap3, rfl⟩ := own_shape2 hown
    obtain ⟨nq, hnq⟩ : ∃ nq, (withoutF name.data.toList (fs.take k)).length = nq := ⟨_, rfl⟩
    have HNQ := Lib.hid hnq
    have hnq2 : nq ≤ 1000000 := by
      rw [← hnq]
      have h1 := List.length_filter_le (fun f : List UInt8 × List UInt8 => !sameB f.1 name.data.toList) (fs.take k)
      rw [List.length_take] at h1
      unfold withoutF
      omega
    rw [hnq] at HO ⊢
    clear hown hbl hnq
    by_cases hlt : k < nf
    · have hk' : k < fs.length := by rw [HNF.out]; exact hlt
      obtain ⟨ad, rfl, hb0⟩ := H.out.at_ (by omega)
      obtain ⟨c0, c1⟩ := (H.out.kept (kept_of_below HBL.out) (fun _ _ f => f)).cell k ad hk' rfl
      obtain ⟨z1, z2⟩ := HZ.out fs[k] (List.getElem_mem hk')
      have hts : Hid (fs.take (k + 1) = fs.take k ++ [fs[k]]) := Lib.hid (List.take_succ_eq_append_getElem hk')
      obtain ⟨⟨fn, fb⟩, hfk⟩ : ∃ q, fs[k] = q := ⟨_, rfl⟩
      rw [hfk] at c0 c1 z1 z2 hts
      simp only at c0 c1 z1 z2
      have CI := is_any (bsOf fn) name wr (by rw [bsOf_size]; omega) hs
      rw [bsOf_data] at CI
      have C0 := Lib.hid c0
      have C1 := Lib.hid c1
      unfold strV at c0 c1 C0 C1
      clear z1 z2 hfk
      have i1 : (0 : Int) ≤ (k : Int) := Int.natCast_nonneg _
      cases hpp : sameB fn name.data.toList
      · have hfil : Hid (withoutF name.data.toList (fs.take (k + 1)) = withoutF name.data.toList (fs.take k) ++ [(fn, fb)]) := Lib.hid (by unfold withoutF; rw [hts.out, List.filter_append]; simp [hpp])
        rw [hpp] at CI
        have CP := Lib.hid CI
        clear hpp CI
        go_wp2_with fail
        refine CP.out.mono ?_
        rintro e w1 ⟨rfl, hb1⟩
        have hw1 : wr.heap.size ≤ w1.heap.size := hb1.size
        have q0 := ((kept_of_below hb1).cell (p := ad.add (k * 2)) (by rw [addr_block]; omega) (fun f => f)).trans C0.out
        have q1 := ((kept_of_below hb1).cell (p := ⟨(ad.add (k * 2)).block, (ad.add (k * 2)).off + 1, none⟩) (by show (ad.add (k * 2)).block < _; rw [addr_block]; omega) (fun f => f)).trans C1.out
        have HK1 := Lib.hid (kept_of_below hb1)
        have HO1 := Lib.hid (own_kept HO.out HK1.out (fun _ _ f => f))
        have HK0 := Lib.hid ((Kept.refl (fun _ => False) w1).alloc (.cells #[.string (bsOf fn), .string (bsOf fb)] 25))
        clear hb1 c0 c1
        go_wp2_with (at_builtin; refine wpList_append_lies _ rfl _ _ 26 rfl w.heap.size 25 i0 (.agg #[.string ⟨#[]⟩, .string ⟨#[]⟩]) 2 32 Try.underlying26 HI.out HZ0.out HZ1.out HZ2.out rfl (by decide) (.slice A3 nq cap3) nq _ rfl (own_kept HO1.out HK0.out (fun _ _ f => f)) ⟨w1.heap.size, 0, none⟩ 1 1 [.string (bsOf fn), .string (bsOf fb)] rfl rfl (new_cells2' _ _ _ _) (one_two _ _) (by decide) (by unfold maxLen; omega) (by omega) (by simp; omega) (w1.heap.size + 1) (by simp) ?_; intro g3 cap4 w3 hown3 hgrow3 hlies3 hlt3)
        have HO3 := Lib.hid hown3
        have HB3 := Lib.hid (HBL.out.trans (((HK1.out.mono (G := fun j => Value.ownBlock (.slice A3 nq cap3) = some j) (fun _ _ f => f.elim)).trans ((HK0.out.mono (G := fun j => Value.ownBlock (.slice A3 nq cap3) = some j) (fun _ _ f => f.elim)).grown hgrow3 (fun j _ e => e)) (fun _ _ f => f)).toBelow (fun j f => (own_lt HO.out j f).1) hwr))
        clear hown3 hgrow3 hlies3
        go_wp2
        go_roundw
        case rel =>
          refine ⟨k + 1, by rw [HNF.out]; omega, by go_num, ?_, HB3.out⟩
          have := HO3.out
          rw [hfil.out, List.length_append, HNQ.out, cellsF_append]
          exact this
        case measure => simp [RowKit.intOf]; omega
      · have hfil : Hid (withoutF name.data.toList (fs.take (k + 1)) = withoutF name.data.toList (fs.take k)) := Lib.hid (by unfold withoutF; rw [hts.out, List.filter_append]; simp [hpp])
        rw [hpp] at CI
        have CP := Lib.hid CI
        clear hpp CI
        go_wp2_with fail
        refine CP.out.mono ?_
        rintro e w1 ⟨rfl, hb1⟩
        have HB1 := Lib.hid hb1
        clear hb1
        go_wp2
        go_roundw
        case rel => exact ⟨k + 1, by rw [HNF.out]; omega, by go_num, by rw [hfil.out, HNQ.out]; exact own_kept HO.out (kept_of_below HB1.out) (fun _ _ f => f), HBL.out.trans (HB1.out.mono hwr)⟩
        case measure => simp [RowKit.intOf]; omega
    · obtain rfl : k = nf := by omega
      go_wp2
      go_ret
      refine ⟨_, rfl, ?_, HBL.out⟩
      have e2 : fs.take k = fs := List.take_of_length_le (by rw [HNF.out]; exact Nat.le_refl _)
      rw [e2] at HO HNQ
      rw [HNQ.out]
      exact HO.out

theorem getF_snoc (name : List UInt8) (l : List (List UInt8 × List UInt8)) (f : List UInt8 × List UInt8) : getF name (l ++ [f]) = if sameB f.1 name = true then (if (getF name l).2 = 0 then (f.2, 1) else ((getF name l).1, (getF name l).2 + 1)) else getF name l := by
  unfold getF withF
  rw [List.filter_append]
  by_cases h : sameB f.1 name = true
  · rw [if_pos h]
    cases hl : l.filter (fun f => sameB f.1 name) with
    | nil => simp [h]
    | cons x r => simp [h]
  · rw [if_neg h]
    have : ([f].filter fun f => sameB f.1 name) = [] := by simp [h]
    rw [this, List.append_nil]
theorem getF_le (name : List UInt8) (l : List (List UInt8 × List UInt8)) : (getF name l).2 ≤ l.length := by
  have := List.length_filter_le (fun f : List UInt8 × List UInt8 => sameB f.1 name) l
  unfold getF
  split
  · exact Nat.zero_le _
  · rename_i f r h
    unfold withF at h
    rw [h] at this
    simpa using this
/-- What holds at the head of a round of the document's Get. -/
def RGRel (fs : List (List UInt8 × List UInt8)) (name : List UInt8) (w : World) (v6 v7 v8 : Value) (wr : World) : Prop :=
  ∃ k : Nat, k ≤ fs.length ∧ v8 = .int .i64 k ∧ v6 = strV (getF name (fs.take k)).1 ∧ v7 = .int .i64 (getF name (fs.take k)).2 ∧ Below w.heap.size w wr

set_option maxRecDepth 10000 in
set_option maxHeartbeats 2000000 in
theorem rget_any {A : Option Addr} {cap : Nat} {fs : List (List UInt8 × List UInt8)} {w : World} (name : ByteArray) (h : FldsAt A fs w) (hz : ∀ f ∈ fs, f.1.length ≤ 1000000 ∧ f.2.length ≤ 1000000) (hn : fs.length ≤ 1000000) (hs : name.size ≤ 9223372036854775807) :
    Calls Try.prog 31 #[.slice A fs.length cap, .string name] w fun e w' => e = .returned (.tuple #[strV (getF name.data.toList fs).1, .int .i64 (getF name.data.toList fs).2]) ∧ Below w.heap.size w w' := by
  have H := Lib.hid h
  have HZ := Lib.hid hz
  obtain ⟨nf, hnf⟩ : ∃ nf, fs.length = nf := ⟨_, rfl⟩
  have HNF := Lib.hid hnf
  rw [hnf] at hn ⊢
  clear h hz hnf
  go_enter Try.func31, Try.ntmps31
  go_wp2
  go_loopw [6, 7, 8] (fun a b v wr => RGRel fs name.data.toList w a b v wr) (fun _ _ v _ => nf - (RowKit.intOf v).toNat)
  case atStart => exact ⟨0, Nat.zero_le _, rfl, rfl, rfl, Below.refl _ _⟩
  case round =>
    obtain ⟨k, hk, rfl, rfl, rfl, hbl⟩ := hrel
    rw [HNF.out] at hk
    have HBL := Lib.hid hbl
    have hwr := hbl.size
    obtain ⟨bd, hbd⟩ : ∃ bd, (getF name.data.toList (fs.take k)).1 = bd := ⟨_, rfl⟩
    obtain ⟨cn, hcn⟩ : ∃ cn, (getF name.data.toList (fs.take k)).2 = cn := ⟨_, rfl⟩
    have HGK : Hid (getF name.data.toList (fs.take k) = (bd, cn)) := Lib.hid (by rw [← hbd, ← hcn])
    have hcn2 : cn ≤ 1000000 := by
      rw [← hcn]
      have := getF_le name.data.toList (fs.take k)
      rw [List.length_take] at this
      omega
    rw [hbd, hcn]
    clear hbl hbd hcn
    unfold strV
    by_cases hlt : k < nf
    · have hk' : k < fs.length := by rw [HNF.out]; exact hlt
      obtain ⟨ad, rfl, hb0⟩ := H.out.at_ (by omega)
      obtain ⟨c0, c1⟩ := (H.out.kept (kept_of_below HBL.out) (fun _ _ f => f)).cell k ad hk' rfl
      obtain ⟨z1, z2⟩ := HZ.out fs[k] (List.getElem_mem hk')
      have hts : fs.take (k + 1) = fs.take k ++ [fs[k]] := List.take_succ_eq_append_getElem hk'
      obtain ⟨⟨fn, fb⟩, hfk⟩ : ∃ q, fs[k] = q := ⟨_, rfl⟩
      rw [hfk] at c0 c1 z1 z2 hts
      simp only at c0 c1 z1 z2
      have hsn := getF_snoc name.data.toList (fs.take k) (fn, fb)
      rw [← hts, HGK.out] at hsn
      simp only at hsn
      have HSN := Lib.hid hsn
      have CI := is_any (bsOf fn) name wr (by rw [bsOf_size]; omega) hs
      rw [bsOf_data] at CI
      have C1 := Lib.hid c1
      unfold strV at c0 c1 C1
      clear z1 z2 hfk hts hsn
      have i1 : (0 : Int) ≤ (k : Int) := Int.natCast_nonneg _
      have hq : (sameB fn name.data.toList = false ∧ Hid (getF name.data.toList (fs.take (k + 1)) = (bd, cn))) ∨ (sameB fn name.data.toList = true ∧ ((((cn : Int) == 0) = true ∧ Hid (getF name.data.toList (fs.take (k + 1)) = (fb, cn + 1))) ∨ (((cn : Int) == 0) = false ∧ Hid (getF name.data.toList (fs.take (k + 1)) = (bd, cn + 1))))) := by
        cases hpp : sameB fn name.data.toList
        · exact .inl ⟨rfl, Lib.hid (by rw [HSN.out, if_neg (by rw [hpp]; decide)])⟩
        · refine .inr ⟨rfl, ?_⟩
          by_cases h0 : cn = 0
          · exact .inl ⟨beq_iff_eq.2 (by omega), Lib.hid (by rw [HSN.out, if_pos hpp, if_pos h0, h0])⟩
          · exact .inr ⟨beq_eq_false_iff_ne.2 (by omega), Lib.hid (by rw [HSN.out, if_pos hpp, if_neg h0])⟩
      rcases hq with ⟨hpp, HNX⟩ | ⟨hpp, ⟨hz0, HNX⟩ | ⟨hz0, HNX⟩⟩
      all_goals
        rw [hpp] at CI
        have CP := Lib.hid CI
        clear hpp CI
        go_wp2_with fail
        refine CP.out.mono ?_
        rintro e w1 ⟨rfl, hb1⟩
        have hw1 : wr.heap.size ≤ w1.heap.size := hb1.size
        have q1 := ((kept_of_below hb1).cell (p := ⟨(ad.add (k * 2)).block, (ad.add (k * 2)).off + 1, none⟩) (by show (ad.add (k * 2)).block < _; rw [addr_block]; omega) (fun f => f)).trans C1.out
        have HB1 := Lib.hid (HBL.out.trans (hb1.mono hwr))
        clear hb1 c0 c1
        go_wp2
        go_roundw
        case rel => exact ⟨k + 1, by rw [HNF.out]; omega, by go_num, by (rw [HNX.out] <;> rfl), by (rw [HNX.out] <;> (first | rfl | go_num)), HB1.out⟩
        case measure => simp [RowKit.intOf]; omega
    · obtain rfl : k = nf := by omega
      have e2 : fs.take k = fs := List.take_of_length_le (by rw [HNF.out]; exact Nat.le_refl _)
      rw [e2] at HGK
      go_wp2
      go_ret2
      exact ⟨by rw [HGK.out]; rfl, HBL.out⟩
end Go.Proofs.Ytknamddpflkifaa
