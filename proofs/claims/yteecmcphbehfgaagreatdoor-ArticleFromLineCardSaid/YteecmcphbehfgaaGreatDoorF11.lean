/- The parser of a header, its state; a failure noted; a line read, over this translation.
   Conditions: texts of at most 1000000 bytes. -/
import Derived.Test.YteecmcphbehfgaaGreatDoorF10
namespace Go.Proofs.YteecmcphbehfgaaGreatDoor
open Go.RowKit Go.Lib

/-! ### the parser's state -/
/-- The cells of fields. -/
def cellsF (fs : List (List UInt8 × List UInt8)) : List Value := fs.flatMap fun f => [strV f.1, strV f.2]
/-- The parser in block p: the fields' row is g. -/
structure PSt (B p : Nat) (text : ByteArray) (at' : Nat) (fs : List (List UInt8 × List UInt8)) (st : Int × Int) (g : Option Nat) (w : World) : Prop where
  base : B ≤ p
  row : ∃ v, w.heap[p]? = some (.cells #[.string text, .int .i64 at', v, .int .i64 st.1, .int .i64 st.2] 136 (0, 0)) ∧ w.ownsRow B 70 2 v fs.length (cellsF fs) ∧ v.ownBlock = g
theorem PSt.kept {F : Nat → Prop} {B p : Nat} {text : ByteArray} {at' : Nat} {fs : List (List UInt8 × List UInt8)} {st : Int × Int} {g : Option Nat} {w w' : World} (h : PSt B p text at' fs st g w) (hk : Kept F w w') (hb : ¬ F p) (hg : ∀ k, g = some k → ¬ F k) : PSt B p text at' fs st g w' := by
  obtain ⟨hB, v, h1, h2, rfl⟩ := h
  exact ⟨hB, v, hk.heap h1 hb, own_kept h2 hk hg, rfl⟩
theorem PSt.lt {B p : Nat} {text : ByteArray} {at' : Nat} {fs : List (List UInt8 × List UInt8)} {st : Int × Int} {g : Option Nat} {w : World} (h : PSt B p text at' fs st g w) : p < w.heap.size := by
  obtain ⟨hB, v, h1, _⟩ := h
  exact lt_of_block h1
theorem PSt.glt {B p : Nat} {text : ByteArray} {at' : Nat} {fs : List (List UInt8 × List UInt8)} {st : Int × Int} {g : Option Nat} {w : World} (h : PSt B p text at' fs st g w) : ∀ k, g = some k → B ≤ k ∧ k < w.heap.size := by
  obtain ⟨hB, v, h1, h2, rfl⟩ := h
  exact own_lt h2
structure PCells (p : Nat) (text : ByteArray) (at' : Nat) (st : Int × Int) (w : World) : Prop where
  c0 : w.cell? ⟨p, 0, none⟩ = some (.string text)
  c1 : w.cell? ⟨p, 1, none⟩ = some (.int .i64 at')
  c3 : w.cell? ⟨p, 3, none⟩ = some (.int .i64 st.1)
  c4 : w.cell? ⟨p, 4, none⟩ = some (.int .i64 st.2)
  f1 : w.frozen? ⟨p, 1, none⟩ = false
  f2 : w.frozen? ⟨p, 2, none⟩ = false
  f3 : w.frozen? ⟨p, 3, none⟩ = false
  f4 : w.frozen? ⟨p, 4, none⟩ = false
theorem PSt.cells {B p : Nat} {text : ByteArray} {at' : Nat} {fs : List (List UInt8 × List UInt8)} {st : Int × Int} {g : Option Nat} {w : World} (h : PSt B p text at' fs st g w) : PCells p text at' st w := by
  obtain ⟨hB, v, h1, _⟩ := h
  exact ⟨by rw [Lib.cell_of_heap h1]; rfl, by rw [Lib.cell_of_heap h1]; rfl, by rw [Lib.cell_of_heap h1]; rfl, by rw [Lib.cell_of_heap h1]; rfl,
    Lib.frozen_of_heap h1 _, Lib.frozen_of_heap h1 _, Lib.frozen_of_heap h1 _, Lib.frozen_of_heap h1 _⟩
theorem heap_set {w : World} {p i : Nat} {C : Array Value} {T : TypeId} (h : w.heap[p]? = some (.cells C T (0, 0))) (u : Value) : (w.setCell ⟨p, i, none⟩ u).heap[p]? = some (.cells (C.setIfInBounds i u) T (0, 0)) := heap_setCell_same w p i C T u h
/-- A failure noted, and a new offset. -/
theorem PSt.note {B p : Nat} {text : ByteArray} {at' : Nat} {fs : List (List UInt8 × List UInt8)} {st : Int × Int} {g : Option Nat} {w : World} (h : PSt B p text at' fs st g w) (pl e : Int) : PSt B p text at' fs (pl, e) g ((w.setCell ⟨p, 3, none⟩ (.int .i64 pl)).setCell ⟨p, 4, none⟩ (.int .i64 e)) := by
  obtain ⟨hB, v, h1, h2, rfl⟩ := h
  have hne := own_ne h2 h1 (by decide)
  refine ⟨hB, v, ?_, ownsRow_setCell_other (ownsRow_setCell_other h2 hne _) hne _, rfl⟩
  rw [heap_set (heap_set h1 _) _]
  rfl
theorem PSt.move {B p : Nat} {text : ByteArray} {at' : Nat} {fs : List (List UInt8 × List UInt8)} {st : Int × Int} {g : Option Nat} {w : World} (h : PSt B p text at' fs st g w) (n : Nat) : PSt B p text n fs st g (w.setCell ⟨p, 1, none⟩ (.int .i64 n)) := by
  obtain ⟨hB, v, h1, h2, rfl⟩ := h
  have hne := own_ne h2 h1 (by decide)
  refine ⟨hB, v, ?_, ownsRow_setCell_other h2 hne _, rfl⟩
  rw [heap_set h1 _]
  rfl

/-- The failure that is kept: the first. -/
def failS (st : Int × Int) (pl e : Int) : Int × Int := if st.2 = 0 then (pl, e) else st

set_option maxHeartbeats 1000000 in
theorem fail_any {B p : Nat} {text : ByteArray} {at' : Nat} {fs : List (List UInt8 × List UInt8)} {st : Int × Int} {g : Option Nat} {w : World} (h : PSt B p text at' fs st g w) (pl e : Int) :
    Calls Tryz.prog 117 #[.pointer (some ⟨p, 0, none⟩), .int .i64 pl, .int .i64 e] w fun r w' => r = .returned (.tuple #[]) ∧ PSt B p text at' fs (failS st pl e) g w' ∧ Kept (fun k => k = p) w w' := by
  obtain ⟨c0, c1, c3, c4, f1, f2, f3, f4⟩ := h.cells
  have H := Lib.hid h
  clear h
  unfold failS
  by_cases h0 : st.2 = 0
  · rw [if_pos h0]
    rw [h0] at c4
    have HK : Hid (Kept (fun k => k = p) w ((w.setCell ⟨p, 3, none⟩ (.int .i64 pl)).setCell ⟨p, 4, none⟩ (.int .i64 e))) := Lib.hid (((Kept.refl (fun k => k = p) w).setCell (p := ⟨p, 3, none⟩) (fun _ => rfl) _).setCell (p := ⟨p, 4, none⟩) (fun _ => rfl) _)
    clear h0
    go_enter Tryz.func117, Tryz.ntmps117
    go_wp2
    go_end0
    exact ⟨rfl, H.out.note pl e, HK.out⟩
  · rw [if_neg h0]
    have hb : (st.2 == 0) = false := beq_eq_false_iff_ne.2 h0
    clear h0
    go_enter Tryz.func117, Tryz.ntmps117
    go_wp2
    go_end0
    exact ⟨rfl, H.out, Kept.refl _ _⟩

/-! ### plain: a line -/
def nlB (c : UInt8) : Bool := !decide (c.toNat = 10)
def okB (c : UInt8) : Bool := visB c || blkB c
/-- The line at an offset, without its line feed, and the first failure in it: its place and its code, or 0. -/
def lineS (text : List UInt8) (at' : Nat) : List UInt8 × (Int × Int) :=
  let n := spanL nlB (text.drop at') 0
  if n = (text.drop at').length then ([], (text.length, 4)) else
  if 998 < n then ((text.drop at').take n, (at' + 998, 5)) else
  if spanL okB ((text.drop at').take n) 0 = n then ((text.drop at').take n, (0, 0)) else ((text.drop at').take n, (at' + spanL okB ((text.drop at').take n) 0, 6))
theorem indexByte_nl : ∀ (l : List UInt8), Lib.indexByte l 10 = if spanL nlB l 0 = l.length then -1 else (spanL nlB l 0 : Int)
  | [] => rfl
  | c :: r => by
    have ih := indexByte_nl r
    have e : ∀ l : List UInt8, spanL nlB l 0 = (l.takeWhile nlB).length := fun l => by simp [spanL]
    rw [e] at ih ⊢
    unfold Lib.indexByte
    by_cases hc : c.toNat = 10
    · have hc' : c = 10 := UInt8.toNat_inj.1 hc
      subst hc'
      have hn : nlB 10 = false := by decide
      rw [List.takeWhile_cons, hn]
      simp
    · have hne : (c == 10) = false := beq_eq_false_iff_ne.2 (fun h => hc (by rw [h]; rfl))
      have hn : nlB c = true := by unfold nlB; rw [decide_eq_false hc]; rfl
      rw [List.takeWhile_cons, hn, hne, ih]
      simp only [if_true, Bool.false_eq_true, if_false, List.length_cons]
      by_cases h : (r.takeWhile nlB).length = r.length
      · simp [h]
      · have : (((r.takeWhile nlB).length : Int) == -1) = false := beq_eq_false_iff_ne.2 (by omega)
        simp [h]

theorem lineS_none {text : List UInt8} {a : Nat} (h : spanL nlB (text.drop a) 0 = (text.drop a).length) : lineS text a = (([] : List UInt8), ((text.length : Int), (4 : Int))) := by unfold lineS; rw [if_pos h]
theorem lineS_long {text : List UInt8} {a n : Nat} (hn : spanL nlB (text.drop a) 0 = n) (h : n ≠ (text.drop a).length) (h1 : 998 < n) : lineS text a = ((text.drop a).take n, ((a : Int) + 998, (5 : Int))) := by
  unfold lineS
  simp only [hn]
  rw [if_neg h, if_pos h1]
theorem lineS_ok {text : List UInt8} {a n : Nat} (hn : spanL nlB (text.drop a) 0 = n) (h : n ≠ (text.drop a).length) (h1 : ¬ 998 < n) (h2 : spanL okB ((text.drop a).take n) 0 = n) : lineS text a = ((text.drop a).take n, (0, 0)) := by
  unfold lineS
  simp only [hn]
  rw [if_neg h, if_neg h1, if_pos h2]
theorem lineS_bad {text : List UInt8} {a n k : Nat} (hn : spanL nlB (text.drop a) 0 = n) (h : n ≠ (text.drop a).length) (h1 : ¬ 998 < n) (h2 : spanL okB ((text.drop a).take n) 0 = k) (hk : k < n) : lineS text a = ((text.drop a).take n, ((a : Int) + k, (6 : Int))) := by
  unfold lineS
  simp only [hn]
  rw [if_neg h, if_neg h1, if_neg (by omega), h2]

/-- The parser's failure behind a step that began without one. -/
def stOf (pl0 : Int) (r : Int × Int) : Int × Int := if r.2 = 0 then (pl0, 0) else r
theorem stOf_zero {pl0 : Int} {r : Int × Int} (h : r.2 = 0) : stOf pl0 r = (pl0, 0) := by unfold stOf; rw [if_pos h]
theorem stOf_fail {pl0 : Int} {r : Int × Int} (h : r.2 ≠ 0) : stOf pl0 r = r := by unfold stOf; rw [if_neg h]

/-- What holds at the head of a round of line. -/
def LRel (B p : Nat) (text : ByteArray) (at' : Nat) (fs : List (List UInt8 × List UInt8)) (pl0 : Int) (fin : Int × Int) (l : List UInt8) (g : Option Nat) (w : World) (v : Value) (wr : World) : Prop :=
  ∃ (k : Nat) (st : Int × Int), k ≤ l.length ∧ v = .int .i64 k ∧ PSt B p text at' fs st g wr ∧ Kept (fun k => k = p) w wr ∧ ((st = fin ∧ fin.2 ≠ 0) ∨ (st = (pl0, 0) ∧ l.length ≤ 998 ∧ spanL okB l 0 = spanL okB l k))

set_option maxRecDepth 10000 in
set_option maxHeartbeats 2000000 in
theorem line_any {B p : Nat} {text : ByteArray} {at' : Nat} {fs : List (List UInt8 × List UInt8)} {pl0 : Int} {g : Option Nat} {w : World} (h : PSt B p text at' fs (pl0, 0) g w) (ha : at' ≤ text.size) (hs : text.size ≤ 1000000) :
    Calls Tryz.prog 114 #[.pointer (some ⟨p, 0, none⟩)] w fun r w' => r = .returned (strV (lineS text.data.toList at').1) ∧ PSt B p text at' fs (stOf pl0 (lineS text.data.toList at').2) g w' ∧ Kept (fun k => k = p) w w' := by
  obtain ⟨c0, c1, c3, c4, f1, f2, f3, f4⟩ := h.cells
  have H := Lib.hid h
  clear h c3 c4 f1 f2 f3 f4
  have hR : (text.extract at' text.size).data.toList = text.data.toList.drop at' := by
    rw [ByteArray.data_extract, Array.toList_extract]
    show List.take (text.data.size - at') _ = _
    rw [List.take_of_length_le (by simp)]
  have hRs : (text.extract at' text.size).size = text.size - at' := by simp
  go_enter Tryz.func114, Tryz.ntmps114
  go_wp2
  go_region
  have H1 : PSt B p text at' fs (pl0, 0) g w.drew := H.out.kept ((Kept.refl (fun _ => False) w).drew) (fun f => f) (fun _ _ f => f)
  have HK1 := Lib.hid ((Kept.refl (fun k => k = p) w).drew)
  generalize w.drew = wd at H1 HK1 ⊢
  clear c0 c1
  obtain ⟨c0, c1, c3, c4, f1, f2, f3, f4⟩ := H1.cells
  have H1 := Lib.hid H1
  generalize text.extract at' text.size = R at hR hRs ⊢
  have HR := Lib.hid hR
  have hlr : (text.data.toList.drop at').length = R.size := by rw [← hR]; simp
  have CI := Tryz.strings_IndexByte R 10 wd
  rw [show (10 : Int).toNat.toUInt8 = 10 from rfl, hR, indexByte_nl] at CI
  clear hR
  obtain ⟨n, hn⟩ : ∃ n, spanL nlB (text.data.toList.drop at') 0 = n := ⟨_, rfl⟩
  have hnle : n ≤ R.size := by rw [← hlr, ← hn]; exact spanL_le _ _ _ (Nat.zero_le _)
  rw [hn, hlr] at CI
  by_cases hnr : n = R.size
  · rw [if_pos hnr] at CI
    have HE := Lib.hid (lineS_none (by rw [hn, hlr]; exact hnr))
    have CI := Lib.hid CI
    have htl : text.data.toList.length = text.size := by simp
    have HT := Lib.hid htl
    clear hn hnr htl hlr
    go_wp2_with (first
      | (go_at_call 116; refine CI.out.mono ?_; rintro e w' ⟨rfl, rfl⟩)
      | (go_at_call 117; refine (fail_any H1.out text.size 4).mono ?_; rintro e w2 ⟨rfl, h2, hk2⟩; have H2 := Lib.hid h2; have HK2 := Lib.hid hk2; clear h2 hk2))
    go_ret
    exact ⟨by rw [HE.out]; rfl, by rw [HE.out, HT.out]; exact H2.out, HK1.out.trans HK2.out (fun _ _ f => f)⟩
  rw [if_neg hnr] at CI
  have CI : Hid (Calls Tryz.prog 116 #[.string R, .int .u8 10] wd fun e w' => e = .returned (.int .i64 n) ∧ wd = w') := Lib.hid (CI.mono fun _ _ h => ⟨h.1, h.2.symm⟩)
  have hnlt : n < R.size := by omega
  have HN := Lib.hid hn
  have HNE := Lib.hid (show n ≠ (text.data.toList.drop at').length by rw [hlr]; exact hnr)
  have hL : (R.extract 0 n).data.toList = (text.data.toList.drop at').take n := by
    rw [ByteArray.data_extract, Array.toList_extract, HR.out]
    rfl
  have hLs : (R.extract 0 n).size = n := by simp; omega
  have hll : ((text.data.toList.drop at').take n).length = n := by rw [List.length_take, hlr]; omega
  have hsv : Value.string (R.extract 0 n) = strV ((text.data.toList.drop at').take n) := by unfold strV; rw [← hL, bsOf_eta]
  have HSV := Lib.hid hsv
  have HLL := Lib.hid hll
  have HLD := Lib.hid hL
  clear hn hnr hlr hL hll hsv
  -- the common end: a state behind the loop's head
  have hend : Hid (∀ (st : Int × Int) (y : World), PSt B p text at' fs st g y → Kept (fun k => k = p) w y → ((st = (lineS text.data.toList at').2 ∧ (lineS text.data.toList at').2.2 ≠ 0) ∨ (st = (pl0, 0) ∧ n ≤ 998 ∧ spanL okB ((text.data.toList.drop at').take n) 0 = n)) →
      (lineS text.data.toList at').1 = (text.data.toList.drop at').take n ∧ PSt B p text at' fs (stOf pl0 (lineS text.data.toList at').2) g y ∧ Kept (fun k => k = p) w y) := Lib.hid fun st y h1 h2 h3 => by
    have h1st : (lineS text.data.toList at').1 = (text.data.toList.drop at').take n := by
      by_cases h9 : 998 < n
      · rw [lineS_long HN.out HNE.out h9]
      · by_cases hk : spanL okB ((text.data.toList.drop at').take n) 0 = n
        · rw [lineS_ok HN.out HNE.out h9 hk]
        · have := spanL_le okB ((text.data.toList.drop at').take n) 0 (Nat.zero_le _)
          rw [HLL.out] at this
          rw [lineS_bad HN.out HNE.out h9 rfl (by omega)]
    refine ⟨h1st, ?_, h2⟩
    rcases h3 with ⟨rfl, hne⟩ | ⟨rfl, h9, hk⟩
    · rw [stOf_fail hne]; exact h1
    · rw [lineS_ok HN.out HNE.out (by omega) hk, stOf_zero rfl]; exact h1
  have hstop : Hid (∀ k, k < n → n ≤ 998 → spanL okB ((text.data.toList.drop at').take n) 0 = k → (lineS text.data.toList at').2 = ((at' : Int) + k, (6 : Int))) := Lib.hid fun k hk h9 h => by
    rw [lineS_bad HN.out HNE.out (by omega) h hk]
  have hnb : n ≤ 1000000 := by omega
  by_cases h9 : 998 < n
  case' pos =>
    have HE := Lib.hid (lineS_long HN.out HNE.out h9)
    go_wp2_with (first
      | (go_at_call 116; refine CI.out.mono ?_; rintro e w' ⟨rfl, rfl⟩)
      | (go_at_call 117; refine (fail_any H1.out (at' + 998) 5).mono ?_; rintro e w2 ⟨rfl, h2, hk2⟩; have H2 := Lib.hid h2; have HK2 := Lib.hid (HK1.out.trans hk2 (fun _ _ f => f)); clear h2 hk2))
    have H3 : Hid (LRel B p text at' fs pl0 (lineS text.data.toList at').2 (R.extract 0 n).data.toList g w (.int .i64 0) w2) := Lib.hid ⟨0, _, Nat.zero_le _, rfl, H2.out, HK2.out, .inl ⟨by rw [HE.out]; rfl, by rw [HE.out]; show (5 : Int) ≠ 0; decide⟩⟩
    clear HE H2 HK2
  case' neg =>
    have h9' : n ≤ 998 := by omega
    go_wp2_with (go_at_call 116; refine CI.out.mono ?_; rintro e w' ⟨rfl, rfl⟩)
    have H3 : Hid (LRel B p text at' fs pl0 (lineS text.data.toList at').2 (R.extract 0 n).data.toList g w (.int .i64 0) wd) := Lib.hid ⟨0, _, Nat.zero_le _, rfl, H1.out, HK1.out, .inr ⟨rfl, by rw [HLD.out, HLL.out]; exact h9', rfl⟩⟩
    clear h9'
  all_goals
    clear h9 CI H1 HK1 c0 c1 c3 c4 f1 f2 f3 f4 hnle hRs
    generalize R.extract 0 n = L at hLs HSV HLD H3 ⊢
    go_loopw [6, 40] (fun _ v wr => LRel B p text at' fs pl0 (lineS text.data.toList at').2 L.data.toList g w v wr) (fun _ v _ => n - (RowKit.intOf v).toNat)
    case atStart => exact H3.out
    case round =>
      obtain ⟨k, st, hk, rfl, hP, hKk, hst⟩ := hrel
      rw [HLD.out, HLL.out] at hk
      obtain ⟨q0, q1, q3, q4, r1, r2, r3, r4⟩ := hP.cells
      have HP := Lib.hid hP
      have HKk := Lib.hid hKk
      have HST := Lib.hid hst
      clear hP hKk hst q0 q3 q4 r1 r2 r3 r4
      by_cases hlt : k < n
      · have hkl : k < L.size := by omega
        have hk' : k < L.data.toList.length := by rw [HLD.out, HLL.out]; exact hlt
        have hgo : Hid (okB L[k] = true → (st = (lineS text.data.toList at').2 ∧ (lineS text.data.toList at').2.2 ≠ 0) ∨ (st = (pl0, 0) ∧ L.data.toList.length ≤ 998 ∧ spanL okB L.data.toList 0 = spanL okB L.data.toList (k + 1))) := Lib.hid fun ho => by
          rcases HST.out with h | ⟨h1, h2, h3⟩
          · exact .inl h
          · exact .inr ⟨h1, h2, h3.trans (spanL_step hk' ho)⟩
        have hbad : Hid (okB L[k] = false → (failS st ((at' : Int) + k) 6 = (lineS text.data.toList at').2 ∧ (lineS text.data.toList at').2.2 ≠ 0)) := Lib.hid fun ho => by
          rcases HST.out with ⟨h1, h2⟩ | ⟨h1, h2, h3⟩
          · refine ⟨?_, h2⟩
            unfold failS
            rw [h1, if_neg h2]
          · have he := hstop.out k hlt (by rw [HLD.out, HLL.out] at h2; exact h2) (by rw [← HLD.out]; exact h3.trans (spanL_stop hk' ho))
            rw [he, h1]
            refine ⟨rfl, ?_⟩
            show (6 : Int) ≠ 0
            decide
        have hdec : Hid (okB L[k] = (visB L[k] || blkB L[k])) := Lib.hid rfl
        cases hv : visB L[k]
        · cases hb : blkB L[k]
          · have HV := Lib.hid hv
            have HB := Lib.hid hb
            have HBAD := Lib.hid (hbad.out (by rw [hdec.out, hv, hb]; rfl))
            clear hv hb
            go_wp2_with (first
              | (go_at_call 136; refine (isVisible_any _ wr).mono ?_; rintro e w' ⟨rfl, rfl⟩; simp only [HV.out])
              | (go_at_call 115; refine (isBlank_any _ wr).mono ?_; rintro e w' ⟨rfl, rfl⟩; simp only [HB.out])
              | (go_at_call 117; refine (fail_any HP.out ((at' : Int) + k) 6).mono ?_; rintro e w4 ⟨rfl, h4, hk4⟩; have H4 := Lib.hid h4; have HK4 := Lib.hid (HKk.out.trans hk4 (fun _ _ f => f)); clear h4 hk4))
            go_roundw
            case rel => exact ⟨k + 1, _, by omega, by go_num, H4.out, HK4.out, .inl HBAD.out⟩
            case measure => simp [RowKit.intOf]; omega
          · have HV := Lib.hid hv
            have HB := Lib.hid hb
            have HGO := Lib.hid (hgo.out (by rw [hdec.out, hv, hb]; rfl))
            clear hv hb
            go_wp2_with (first
              | (go_at_call 136; refine (isVisible_any _ wr).mono ?_; rintro e w' ⟨rfl, rfl⟩; simp only [HV.out])
              | (go_at_call 115; refine (isBlank_any _ wr).mono ?_; rintro e w' ⟨rfl, rfl⟩; simp only [HB.out]))
            go_roundw
            case rel => exact ⟨k + 1, _, by omega, by go_num, HP.out, HKk.out, HGO.out⟩
            case measure => simp [RowKit.intOf]; omega
        · have HV := Lib.hid hv
          have HGO := Lib.hid (hgo.out (by rw [hdec.out, hv]; rfl))
          clear hv
          go_wp2_with (go_at_call 136; refine (isVisible_any _ wr).mono ?_; rintro e w' ⟨rfl, rfl⟩; simp only [HV.out])
          go_roundw
          case rel => exact ⟨k + 1, _, by omega, by go_num, HP.out, HKk.out, HGO.out⟩
          case measure => simp [RowKit.intOf]; omega
      · obtain rfl : k = n := by omega
        have hfin := Lib.hid (hend.out st wr HP.out HKk.out (by
          rcases HST.out with h | ⟨h1, h2, h3⟩
          · exact .inl h
          · rw [HLD.out] at h2 h3
            exact .inr ⟨h1, by rw [HLL.out] at h2; exact h2, h3.trans (spanL_end (by rw [HLL.out]; exact Nat.le_refl _))⟩))
        go_wp2
        go_ret
        obtain ⟨e1, e2, e3⟩ := hfin.out
        exact ⟨by rw [e1, ← HSV.out]; rfl, e2, e3⟩
end Go.Proofs.YteecmcphbehfgaaGreatDoor
