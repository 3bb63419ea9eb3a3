/- One line parsed by the parser over this translation: the plain function and the walk.
   Conditions: texts of at most 100000 bytes; at most 64 fields, whose bodies have at most 8192 bytes. -/
import Derived.Test.YteecmcphbehfgaaGreatDoorF13
import Derived.Deep.AppendLies
namespace Go.Proofs.YteecmcphbehfgaaGreatDoor
open Go.RowKit Go.Lib

/-! ### plain -/
def neB (k : UInt8) (c : UInt8) : Bool := !decide (c.toNat = k.toNat)
theorem indexByte_ne (k : UInt8) : ∀ (l : List UInt8), Lib.indexByte l k = if spanL (neB k) l 0 = l.length then -1 else (spanL (neB k) l 0 : Int)
  | [] => rfl
  | c :: r => by
    have ih := indexByte_ne k r
    have e : ∀ l : List UInt8, spanL (neB k) l 0 = (l.takeWhile (neB k)).length := fun l => by simp [spanL]
    rw [e] at ih ⊢
    unfold Lib.indexByte
    by_cases hc : c.toNat = k.toNat
    · have hc' : c = k := UInt8.toNat_inj.1 hc
      subst hc'
      have hn : neB c c = false := by unfold neB; rw [decide_eq_true rfl]; rfl
      rw [List.takeWhile_cons, hn]
      simp
    · have hne : (c == k) = false := beq_eq_false_iff_ne.2 (fun h => hc (by rw [h]))
      have hn : neB k c = true := by unfold neB; rw [decide_eq_false hc]; rfl
      rw [List.takeWhile_cons, hn, hne, ih]
      simp only [if_true, Bool.false_eq_true, if_false, List.length_cons]
      by_cases h : (r.takeWhile (neB k)).length = r.length
      · simp [h]
      · have : (((r.takeWhile (neB k)).length : Int) == -1) = false := beq_eq_false_iff_ne.2 (by omega)
        simp [h]
def contB : List UInt8 → Bool
  | [] => false
  | c :: _ => blkB c

/-- One line: the next offset, the fields, the failure. -/
def oneS (text : List UInt8) (a : Nat) (fs : List (List UInt8 × List UInt8)) : Nat × List (List UInt8 × List UInt8) × (Int × Int) :=
  if (lineS text a).2.2 ≠ 0 then (a, fs, (lineS text a).2) else
  if contB (lineS text a).1 = true then
    match fs.getLast? with
    | none => (a + ((lineS text a).1.length + 1), fs, ((a : Int), 3))
    | some f => (a + ((lineS text a).1.length + 1), fs.dropLast ++ [(f.1, (bodyS a f.2 (lineS text a).1 0).1)], (bodyS a f.2 (lineS text a).1 0).2)
  else if spanL (neB 58) (lineS text a).1 0 = (lineS text a).1.length then (a + ((lineS text a).1.length + 1), fs, ((a : Int), 3))
  else if validB ((lineS text a).1.take (spanL (neB 58) (lineS text a).1 0)) = false then (a + ((lineS text a).1.length + 1), fs, ((a : Int), 12))
  else if fs.length = 64 then (a + ((lineS text a).1.length + 1), fs, ((a : Int), 9))
  else (a + ((lineS text a).1.length + 1), fs ++ [((lineS text a).1.take (spanL (neB 58) (lineS text a).1 0), (bodyS a [] (lineS text a).1 (spanL (neB 58) (lineS text a).1 0 + 1)).1)], (bodyS a [] (lineS text a).1 (spanL (neB 58) (lineS text a).1 0 + 1)).2)

structure Good (fs : List (List UInt8 × List UInt8)) : Prop where
  le : fs.length ≤ 64
  body : ∀ f ∈ fs, f.2.length ≤ 8192

theorem lineS_len (text : List UInt8) (a : Nat) : (lineS text a).1.length ≤ text.length := by
  unfold lineS
  simp only
  split
  · simp
  · split
    · simp; omega
    · split <;> (simp; omega)

theorem PSt.c2 {B p : Nat} {text : ByteArray} {at' : Nat} {fs : List (List UInt8 × List UInt8)} {st : Int × Int} {g : Option Nat} {w : World} (h : PSt B p text at' fs st g w) :
    ∃ v, w.cell? ⟨p, 2, none⟩ = some v ∧ w.ownsRow B 70 2 v fs.length (cellsF fs) ∧ v.ownBlock = g ∧ ∃ A cap, v = .slice A fs.length cap := by
  obtain ⟨hB, v, h1, h2, hv⟩ := h
  refine ⟨v, by rw [Lib.cell_of_heap h1]; rfl, h2, hv, ?_⟩
  rcases h2.2 with ⟨rfl, h0⟩ | ⟨g, cap, _, rfl, _⟩
  · exact ⟨none, 0, by rw [h0]⟩
  · exact ⟨_, _, rfl⟩
/-- The end of one: the offset moved on. -/
theorem PSt.moved {B p : Nat} {text : ByteArray} {at' : Nat} {fs : List (List UInt8 × List UInt8)} {st : Int × Int} {g : Option Nat} {w : World} (h : PSt B p text at' fs st g w) (l : List UInt8) :
    PSt B p text (at' + (l.length + 1)) fs st g (w.setCell ⟨p, 1, none⟩ (.int .i64 ((at' : Int) + ((bsOf l).size + 1)))) := by
  have e : ((at' : Int) + ((bsOf l).size + 1)) = ((at' + (l.length + 1) : Nat) : Int) := by rw [bsOf_size]; omega
  rw [e]
  exact h.move _

theorem head_blk : ∀ (L : List UInt8) (h : 0 < (bsOf L).size), blkB ((bsOf L)[0]'h) = contB L
  | [], h => absurd h (by decide)
  | _ :: _, _ => rfl
theorem ne_of_pos : ∀ (L : List UInt8), 0 < (bsOf L).size → (bsOf L).toList.isEmpty = false
  | [], h => absurd h (by decide)
  | c :: r, _ => by rw [ByteArray.toList_eq, bsOf_data]; rfl

theorem one_two (a b : ByteArray) : ∀ u ∈ [Value.string a, Value.string b], u.oneCell' = true := by
  intro u hu
  rcases List.mem_cons.1 hu with rfl | hu
  · rfl
  · rw [List.mem_singleton.1 hu]; rfl
theorem new_cells2 (w : World) (a b : Value) (T : TypeId) : ∀ (j : Nat) (x : Value), [a, b][j]? = some x → (w.alloc (.cells #[a, b] T)).drew.cell? ((⟨w.heap.size, 0, none⟩ : Addr).add j) = some x := by
  intro j x hj
  rw [add0]
  show (w.alloc (.cells #[a, b] T)).cell? ⟨w.heap.size, j, none⟩ = some x
  match j, hj with
  | 0, hj => rw [cell2.1]; exact hj
  | 1, hj => rw [cell2.2]; exact hj
  | j + 2, hj => simp at hj
theorem Tryz.fld_info : (Tryz.prog.info? 70).map (fun i => (i.zero, i.size, i.bytes)) = some (some (.agg #[.string ⟨#[]⟩, .string ⟨#[]⟩]), 2, 32) := by kernel_rfl
/-- The parser's block behind an append to the fields' row. -/
theorem PSt.grown {B p : Nat} {text : ByteArray} {at' : Nat} {fs : List (List UInt8 × List UInt8)} {st : Int × Int} {g : Option Nat} {w w0 w3 : World} (h : PSt B p text at' fs st g w) (hk : Kept (fun _ => False) w w0) (hg : w0.grownBy w3 g) :
    (∃ v, w3.cell? ⟨p, 2, none⟩ = some v) ∧ w3.frozen? ⟨p, 2, none⟩ = false := by
  obtain ⟨hB, v, h1, h2, rfl⟩ := h
  have hne := own_ne h2 h1 (by decide)
  have hp := hk.heap h1 (fun f => f)
  have e : w3.heap[p]? = some (.cells #[.string text, .int .i64 at', v, .int .i64 st.1, .int .i64 st.2] 136 (0, 0)) := (hg.block p (lt_of_block hp) (fun e => hne e.symm)).trans hp
  exact ⟨⟨v, by rw [Lib.cell_of_heap e]; rfl⟩, Lib.frozen_of_heap e _⟩
theorem PSt.push {B p : Nat} {text : ByteArray} {at' : Nat} {fs : List (List UInt8 × List UInt8)} {st : Int × Int} {g : Option Nat} {w w0 w3 : World} (h : PSt B p text at' fs st g w) (hk : Kept (fun _ => False) w w0) (hg : w0.grownBy w3 g) {v' : Value} (nm : List UInt8)
    (hown : w3.ownsRow B 70 2 v' (fs.length + 1) (cellsF fs ++ [strV nm, strV []])) : PSt B p text at' (fs ++ [(nm, [])]) st v'.ownBlock (w3.setCell ⟨p, 2, none⟩ v') := by
  obtain ⟨hB, v, h1, h2, rfl⟩ := h
  have hne := own_ne h2 h1 (by decide)
  have hp := hk.heap h1 (fun f => f)
  have e : w3.heap[p]? = some (.cells #[.string text, .int .i64 at', v, .int .i64 st.1, .int .i64 st.2] 136 (0, 0)) := (hg.block p (lt_of_block hp) (fun e => hne e.symm)).trans hp
  have hne' := own_ne hown e (by decide)
  have hc : cellsF (fs ++ [(nm, [])]) = cellsF fs ++ [strV nm, strV []] := by rw [cellsF_append]; rfl
  refine ⟨hB, v', ?_, ?_, rfl⟩
  · rw [heap_set e _]; rfl
  · rw [hc, List.length_append]
    exact ownsRow_setCell_other hown hne' _

/-- What one leaves. -/
def OnePost (B p : Nat) (text : ByteArray) (at' : Nat) (fs : List (List UInt8 × List UInt8)) (pl0 : Int) (g : Option Nat) (w : World) (r : Ending) (w' : World) : Prop :=
  r = .returned (.tuple #[]) ∧ (∃ g', PSt B p text (oneS text.data.toList at' fs).1 (oneS text.data.toList at' fs).2.1 (stOf pl0 (oneS text.data.toList at' fs).2.2) g' w') ∧ Kept (fun k => k = p ∨ g = some k) w w'

theorem one_close {B p : Nat} {text : ByteArray} {at' : Nat} {fs fs' : List (List UInt8 × List UInt8)} {pl0 : Int} {st' : Int × Int} {g g' : Option Nat} {w y : World} (he : oneS text.data.toList at' fs = (at' + ((lineS text.data.toList at').1.length + 1), fs', st'))
    (hP : PSt B p text at' fs' (stOf pl0 st') g' y) (hk : Kept (fun k => k = p ∨ g = some k) w y) :
    OnePost B p text at' fs pl0 g w (.returned (.tuple #[])) (y.setCell ⟨p, 1, none⟩ (.int .i64 ((at' : Int) + ((bsOf (lineS text.data.toList at').1).size + 1)))) := by
  refine ⟨rfl, ⟨g', ?_⟩, hk.setCell (p := ⟨p, 1, none⟩) (fun _ => .inl rfl) _⟩
  rw [he]
  exact hP.moved _

set_option maxRecDepth 10000 in
set_option maxHeartbeats 4000000 in
theorem one_any {B p : Nat} {text : ByteArray} {at' : Nat} {fs : List (List UInt8 × List UInt8)} {pl0 : Int} {g : Option Nat} {w : World} (h : PSt B p text at' fs (pl0, 0) g w) (m : Int) (ha : at' ≤ text.size) (hs : text.size ≤ 100000)
    (hG : Good fs) (hm : w.cell? ⟨0, 0, none⟩ = some (.int .i64 m)) (hB : 0 < B) :
    Calls Tryz.prog 92 #[.pointer (some ⟨p, 0, none⟩)] w (OnePost B p text at' fs pl0 g w) := by
  have CL := Lib.hid (line_any h ha (by omega))
  obtain ⟨i0, hi, hz0, hz1, hz2⟩ := info_parts Tryz.fld_info
  have HI := Lib.hid hi
  have HZ0 := Lib.hid hz0
  have HZ1 := Lib.hid hz1
  have HZ2 := Lib.hid hz2
  clear hi hz0 hz1 hz2
  have hp := h.lt
  have hbp := h.base
  have H0 := Lib.hid h
  have hfl := hG.le
  have HG := Lib.hid hG
  have hll := lineS_len text.data.toList at'
  rw [show text.data.toList.length = text.size by simp] at hll
  have h00 : (0 : Nat) < w.heap.size := by omega
  have hp0 : ¬ (0 : Nat) = p := by omega
  clear h hG
  by_cases hf : (lineS text.data.toList at').2.2 ≠ 0
  · have HE : Hid (oneS text.data.toList at' fs = (at', fs, (lineS text.data.toList at').2)) := Lib.hid (by unfold oneS; rw [if_pos hf])
    rw [stOf_fail hf] at CL
    have HF := Lib.hid hf
    clear hf
    go_enter Tryz.func92, Tryz.ntmps92
    go_wp2_with fail
    refine CL.out.mono ?_
    rintro e w1 ⟨rfl, hP, hk⟩
    obtain ⟨q0, q1, q3, q4, r1, r2, r3, r4⟩ := hP.cells
    have hfb : ((lineS text.data.toList at').2.2 == 0) = false := beq_eq_false_iff_ne.2 HF.out
    have hfb' : ((lineS text.data.toList at').2.2 != 0) = true := by rw [bne, hfb]; rfl
    have HP := Lib.hid hP
    have HK := Lib.hid hk
    clear hP hk q0 q1 q3 r1 r2 r3 r4
    unfold strV
    go_wp2
    go_end0
    exact ⟨rfl, ⟨g, by rw [HE.out, stOf_fail HF.out]; exact HP.out⟩, HK.out.mono (fun _ _ f => .inl f)⟩
  have hf0 : (lineS text.data.toList at').2.2 = 0 := by omega
  rw [stOf_zero hf0] at CL
  have HF := Lib.hid hf
  obtain ⟨L, hL⟩ : ∃ L, (lineS text.data.toList at').1 = L := ⟨_, rfl⟩
  have HLL := Lib.hid hL
  rw [hL] at CL hll
  clear hf hf0 hL
  have hz : (bsOf L).size ≤ 100000 := by rw [bsOf_size]; omega
  unfold strV at CL
  have HLz := Lib.hid (bsOf_size L)
  obtain ⟨nf, hnf⟩ : ∃ nf, fs.length = nf := ⟨_, rfl⟩
  have hnf64 : nf ≤ 64 := by omega
  have HNF := Lib.hid hnf
  clear hnf hfl
  have CIB : ∀ W, Hid (Calls Tryz.prog 116 #[.string (bsOf L), .int .u8 58] W fun e w' => e = .returned (.int .i64 (Lib.indexByte L 58)) ∧ W = w') := fun W => Lib.hid ((Tryz.strings_IndexByte (bsOf L) 58 W).mono fun _ _ h => ⟨by rw [h.1, bsOf_data]; rfl, h.2.symm⟩)
  have hix := indexByte_ne 58 L
  cases hcb : contB L
  · by_cases hc : spanL (neB 58) L 0 = L.length
    · rw [if_pos hc] at hix
      rw [hix] at CIB
      clear hix
      have HC := Lib.hid hc
      have HCT := Lib.hid hcb
      clear hc hcb
      by_cases h0 : 0 < (bsOf L).size
      · have HCB : Hid (blkB ((bsOf L)[0]'h0) = false) := Lib.hid ((head_blk L h0).trans HCT.out)
        have hne := ne_of_pos L h0
        have hnt : ¬ (bsOf L).toList = [] := by intro e; rw [e] at hne; cases hne
        go_enter Tryz.func92, Tryz.ntmps92
        go_wp2_with fail
        refine CL.out.mono ?_
        rintro e w1 ⟨rfl, hP, hk⟩
        obtain ⟨q0, q1, q3, q4, r1, r2, r3, r4⟩ := hP.cells
        obtain ⟨vf, c2, hown, hgf, A, capf, rfl⟩ := hP.c2
        rw [HNF.out] at c2 hgf
        have HOF := Lib.hid hown
        have HGF := Lib.hid hgf
        have HP := Lib.hid hP
        have HK := Lib.hid (hk.mono (G := fun k => k = p ∨ g = some k) (fun _ _ f => .inl f))
        have hm1 : w1.cell? ⟨0, 0, none⟩ = some (.int .i64 m) := (hk.cell (p := ⟨0, 0, none⟩) h00 hp0).trans hm
        have hw1 := hk.size
        have CI := CIB w1
        clear hP hk hown hgf q0 q3 r1 r2 r3 r4
        go_wp2_with (first
          | (go_at_call 115; refine (isBlank_any _ w1).mono ?_; rintro e w' ⟨rfl, rfl⟩; simp only [HCB.out])
          | (go_at_call 116; refine CI.out.mono ?_; rintro e w' ⟨rfl, rfl⟩)
          | (go_at_call 117; refine (fail_any HP.out at' 3).mono ?_; rintro e w2 ⟨rfl, h2, hk2⟩; have H2 := Lib.hid h2; have HK2 := Lib.hid (HK.out.trans hk2 (fun _ _ f => .inl f)); have k1 := h2.cells.c1; have k2 := h2.cells.f1; clear h2 hk2))
        go_end0
        have hE : oneS text.data.toList at' fs = (at' + ((lineS text.data.toList at').1.length + 1), fs, ((at' : Int), (3 : Int))) := by
          unfold oneS; rw [if_neg HF.out, HLL.out, if_neg (by rw [HCT.out]; decide), if_pos HC.out]
        have := one_close (pl0 := pl0) (g := g) hE (by rw [stOf_fail (by show (3 : Int) ≠ 0; decide)]; exact H2.out) HK2.out
        rw [HLL.out] at this
        exact this
      · have hL0 : L = [] := by
          cases hL0 : L with
          | nil => rfl
          | cons c r => subst hL0; exact absurd (by rw [bsOf_size]; simp) h0
        have hne : (bsOf L).toList.isEmpty = true := by rw [ByteArray.toList_eq, bsOf_data, hL0]; rfl
        have hnt : (bsOf L).toList = [] := by rw [ByteArray.toList_eq, bsOf_data, hL0]
        clear hL0
        go_enter Tryz.func92, Tryz.ntmps92
        go_wp2_with fail
        refine CL.out.mono ?_
        rintro e w1 ⟨rfl, hP, hk⟩
        obtain ⟨q0, q1, q3, q4, r1, r2, r3, r4⟩ := hP.cells
        obtain ⟨vf, c2, hown, hgf, A, capf, rfl⟩ := hP.c2
        rw [HNF.out] at c2 hgf
        have HOF := Lib.hid hown
        have HGF := Lib.hid hgf
        have HP := Lib.hid hP
        have HK := Lib.hid (hk.mono (G := fun k => k = p ∨ g = some k) (fun _ _ f => .inl f))
        have hm1 : w1.cell? ⟨0, 0, none⟩ = some (.int .i64 m) := (hk.cell (p := ⟨0, 0, none⟩) h00 hp0).trans hm
        have hw1 := hk.size
        have CI := CIB w1
        clear hP hk hown hgf q0 q3 r1 r2 r3 r4
        go_wp2_with (first
          | (go_at_call 116; refine CI.out.mono ?_; rintro e w' ⟨rfl, rfl⟩)
          | (go_at_call 117; refine (fail_any HP.out at' 3).mono ?_; rintro e w2 ⟨rfl, h2, hk2⟩; have H2 := Lib.hid h2; have HK2 := Lib.hid (HK.out.trans hk2 (fun _ _ f => .inl f)); have k1 := h2.cells.c1; have k2 := h2.cells.f1; clear h2 hk2))
        go_end0
        have hE : oneS text.data.toList at' fs = (at' + ((lineS text.data.toList at').1.length + 1), fs, ((at' : Int), (3 : Int))) := by
          unfold oneS; rw [if_neg HF.out, HLL.out, if_neg (by rw [HCT.out]; decide), if_pos HC.out]
        have := one_close (pl0 := pl0) (g := g) hE (by rw [stOf_fail (by show (3 : Int) ≠ 0; decide)]; exact H2.out) HK2.out
        rw [HLL.out] at this
        exact this
    · have hle := spanL_le (neB 58) L 0 (Nat.zero_le _)
      rw [if_neg hc] at hix
      rw [hix] at CIB
      clear hix
      obtain ⟨c, hcd⟩ : ∃ c, spanL (neB 58) L 0 = c := ⟨_, rfl⟩
      rw [hcd] at CIB hc hle
      have HCD := Lib.hid hcd
      have HCN := Lib.hid hc
      have HCT := Lib.hid hcb
      have hcz : c < (bsOf L).size := by rw [bsOf_size]; omega
      have h0 : 0 < (bsOf L).size := by omega
      have HCB : Hid (blkB ((bsOf L)[0]'h0) = false) := Lib.hid ((head_blk L h0).trans HCT.out)
      have hne := ne_of_pos L h0
      have hnt : ¬ (bsOf L).toList = [] := by intro e; rw [e] at hne; cases hne
      clear hcd hc hcb hle
      have hLc : ((bsOf L).extract 0 c).data.toList = L.take c := by
        rw [ByteArray.data_extract, Array.toList_extract]
        show List.take (c - 0) ((bsOf L).data.toList.drop 0) = _
        rw [bsOf_data]
        rfl
      have hcs : ((bsOf L).extract 0 c).size ≤ 1000000 := by simp; omega
      have CVB := fun W => valid_any ((bsOf L).extract 0 c) W hcs
      rw [hLc] at CVB
      have HLC := Lib.hid hLc
      clear hLc
      cases hv : validB (L.take c)
      · have CV : Hid (∀ W, Calls Tryz.prog 119 #[.string ((bsOf L).extract 0 c)] W fun e w' => e = .returned (.bool false) ∧ W = w') := Lib.hid (by rw [hv] at CVB; exact CVB)
        have HV := Lib.hid hv
        clear hv CVB
        go_enter Tryz.func92, Tryz.ntmps92
        go_wp2_with fail
        refine CL.out.mono ?_
        rintro e w1 ⟨rfl, hP, hk⟩
        obtain ⟨q0, q1, q3, q4, r1, r2, r3, r4⟩ := hP.cells
        obtain ⟨vf, c2, hown, hgf, A, capf, rfl⟩ := hP.c2
        rw [HNF.out] at c2 hgf
        have HOF := Lib.hid hown
        have HGF := Lib.hid hgf
        have HP := Lib.hid hP
        have HK := Lib.hid (hk.mono (G := fun k => k = p ∨ g = some k) (fun _ _ f => .inl f))
        have hm1 : w1.cell? ⟨0, 0, none⟩ = some (.int .i64 m) := (hk.cell (p := ⟨0, 0, none⟩) h00 hp0).trans hm
        have hw1 := hk.size
        have CI := CIB w1
        clear hP hk hown hgf q0 q3 r1 r2 r3 r4
        go_wp2_with (first
          | (go_at_call 115; refine (isBlank_any _ w1).mono ?_; rintro e w' ⟨rfl, rfl⟩; simp only [HCB.out])
          | (go_at_call 116; refine CI.out.mono ?_; rintro e w' ⟨rfl, rfl⟩)
          | (go_at_call 119; refine (CV.out _).mono ?_; rintro e w' ⟨rfl, rfl⟩)
          | (go_at_call 117; refine (fail_any HP.out at' 12).mono ?_; rintro e w2 ⟨rfl, h2, hk2⟩; have H2 := Lib.hid h2; have HK2 := Lib.hid (HK.out.trans hk2 (fun _ _ f => .inl f)); have k1 := h2.cells.c1; have k2 := h2.cells.f1; clear h2 hk2))
        go_end0
        have hE : oneS text.data.toList at' fs = (at' + ((lineS text.data.toList at').1.length + 1), fs, ((at' : Int), (12 : Int))) := by
          unfold oneS; rw [if_neg HF.out, HLL.out, if_neg (by rw [HCT.out]; decide), HCD.out, if_neg HCN.out, if_pos HV.out]
        have := one_close (pl0 := pl0) (g := g) hE (by rw [stOf_fail (by show (12 : Int) ≠ 0; decide)]; exact H2.out) HK2.out
        rw [HLL.out] at this
        exact this
      · have CV : Hid (∀ W, Calls Tryz.prog 119 #[.string ((bsOf L).extract 0 c)] W fun e w' => e = .returned (.bool true) ∧ W = w') := Lib.hid (by rw [hv] at CVB; exact CVB)
        have HV := Lib.hid hv
        clear hv CVB
        by_cases h64 : nf = 64
        · have z64 : ((nf : Int) == 64) = true := by rw [h64]; rfl
          have H64 := Lib.hid h64
          clear h64
          go_enter Tryz.func92, Tryz.ntmps92
          go_wp2_with fail
          refine CL.out.mono ?_
          rintro e w1 ⟨rfl, hP, hk⟩
          obtain ⟨q0, q1, q3, q4, r1, r2, r3, r4⟩ := hP.cells
          obtain ⟨vf, c2, hown, hgf, A, capf, rfl⟩ := hP.c2
          rw [HNF.out] at c2 hgf
          have HOF := Lib.hid hown
          have HGF := Lib.hid hgf
          have HP := Lib.hid hP
          have HK := Lib.hid (hk.mono (G := fun k => k = p ∨ g = some k) (fun _ _ f => .inl f))
          have hm1 : w1.cell? ⟨0, 0, none⟩ = some (.int .i64 m) := (hk.cell (p := ⟨0, 0, none⟩) h00 hp0).trans hm
          have hw1 := hk.size
          have CI := CIB w1
          clear hP hk hown hgf q0 q3 r1 r2 r3 r4
          go_wp2_with (first
            | (go_at_call 115; refine (isBlank_any _ w1).mono ?_; rintro e w' ⟨rfl, rfl⟩; simp only [HCB.out])
            | (go_at_call 116; refine CI.out.mono ?_; rintro e w' ⟨rfl, rfl⟩)
            | (go_at_call 119; refine (CV.out _).mono ?_; rintro e w' ⟨rfl, rfl⟩)
            | (go_at_call 117; refine (fail_any HP.out at' 9).mono ?_; rintro e w2 ⟨rfl, h2, hk2⟩; have H2 := Lib.hid h2; have HK2 := Lib.hid (HK.out.trans hk2 (fun _ _ f => .inl f)); have k1 := h2.cells.c1; have k2 := h2.cells.f1; clear h2 hk2))
          go_end0
          have hE : oneS text.data.toList at' fs = (at' + ((lineS text.data.toList at').1.length + 1), fs, ((at' : Int), (9 : Int))) := by
            unfold oneS; rw [if_neg HF.out, HLL.out, if_neg (by rw [HCT.out]; decide), HCD.out, if_neg HCN.out, if_neg (by rw [HV.out]; decide), if_pos (by rw [HNF.out, H64.out])]
          have := one_close (pl0 := pl0) (g := g) hE (by rw [stOf_fail (by show (9 : Int) ≠ 0; decide)]; exact H2.out) HK2.out
          rw [HLL.out] at this
          exact this
        · have z64 : ((nf : Int) == 64) = false := beq_eq_false_iff_ne.2 (by omega)
          have H64 := Lib.hid h64
          clear h64
          go_enter Tryz.func92, Tryz.ntmps92
          go_wp2_with fail
          refine CL.out.mono ?_
          rintro e w1 ⟨rfl, hP, hk⟩
          obtain ⟨q0, q1, q3, q4, r1, r2, r3, r4⟩ := hP.cells
          obtain ⟨vf, c2, hown, hgf, A, capf, rfl⟩ := hP.c2
          rw [HNF.out] at c2 hgf
          have HOF := Lib.hid hown
          have HGF := Lib.hid hgf
          have HP := Lib.hid hP
          have HK := Lib.hid (hk.mono (G := fun k => k = p ∨ g = some k) (fun _ _ f => .inl f))
          have hm1 : w1.cell? ⟨0, 0, none⟩ = some (.int .i64 m) := (hk.cell (p := ⟨0, 0, none⟩) h00 hp0).trans hm
          have hw1 := hk.size
          have CI := CIB w1
          clear hP hk hown hgf q0 q3 r1 r2 r3 r4
          go_wp2_with (first
            | (go_at_call 115; refine (isBlank_any _ w1).mono ?_; rintro e w' ⟨rfl, rfl⟩; simp only [HCB.out])
            | (go_at_call 116; refine CI.out.mono ?_; rintro e w' ⟨rfl, rfl⟩)
            | (go_at_call 119; refine (CV.out _).mono ?_; rintro e w' ⟨rfl, rfl⟩))
          have hcz1 : c ≤ (bsOf L).size := Nat.le_of_lt hcz
          have hp1 : p < w1.heap.size := HP.out.lt
          have HKa := Lib.hid (((Kept.refl (fun _ => False) w1).alloc (.cells #[.string ((bsOf L).extract 0 c), .string ⟨#[]⟩] 70)).drew)
          go_region_law (first
            | (refine step_append_lies _ rfl _ _ 30 rfl B 70 i0 (.agg #[.string ⟨#[]⟩, .string ⟨#[]⟩]) 2 32 Tryz.underlying30 HI.out HZ0.out HZ1.out HZ2.out rfl (by decide) (.slice A nf capf) nf (cellsF fs) rfl (by rw [← HNF.out]; exact own_kept HOF.out HKa.out (fun _ _ f => f)) ⟨w1.heap.size, 0, none⟩ 1 1 [.string ((bsOf L).extract 0 c), .string ⟨#[]⟩] rfl rfl (new_cells2 _ _ _ _) (one_two _ _) (by decide) (by unfold maxLen; omega) (by omega) (by simp; omega) _ rfl ?_; intro g3 cap3 w3 hown3 hgrow3 hlies3 hlt3; obtain ⟨⟨vq, q2⟩, f2⟩ := HP.out.grown HKa.out (by rw [← HGF.out]; exact hgrow3)))
          all_goals
            have hgr : ((w1.alloc (.cells #[.string ((bsOf L).extract 0 c), .string ⟨#[]⟩] 70)).drew).grownBy w3 g := by rw [← HGF.out]; exact hgrow3
            have hsv : Value.string ((bsOf L).extract 0 c) = strV (L.take c) := by unfold strV; rw [← HLC.out, bsOf_eta]
            have HP3 := Lib.hid (HP.out.push HKa.out hgr (v' := .slice (some ⟨g3, 0, none⟩) (nf + 1) cap3) (L.take c) (by rw [HNF.out, ← hsv]; exact hown3))
            have HK3 := Lib.hid (((HK.out.trans HKa.out (fun _ _ f => f.elim)).grown hgr (fun k _ e => .inr e)).setCell (p := ⟨p, 2, none⟩) (fun _ => .inl rfl) (.slice (some ⟨g3, 0, none⟩) (nf + 1) cap3))
            have hF0 : ¬ ((0 : Nat) = p ∨ g = some 0) := by
              rintro (f | f)
              · exact hp0 f
              · have := (H0.out.glt _ f).1
                omega
            have hm3 := (HK3.out.cell (p := ⟨0, 0, none⟩) h00 hF0).trans hm
            have hg3 : g = some g3 ∨ w.heap.size ≤ g3 := by
              rcases hlies3 with f | f
              · exact .inl (HGF.out.symm.trans f)
              · right; rw [f]; simp; omega
            clear hown3 hgrow3 hlies3 hgr hsv q2 f2 q1 q4 c2 hm1
            generalize w3.setCell ⟨p, 2, none⟩ (.slice (some ⟨g3, 0, none⟩) (nf + 1) cap3) = w4 at HP3 HK3 hm3 ⊢
            have CB := body_any HP3.out (bsOf L) (c + 1) m (by omega) (by omega) (by simp) (by omega) (by rw [HNF.out]; omega) hm3 hB
            rw [bsOf_data, Int.natCast_add] at CB
            have CB := Lib.hid CB
            have HG3 := Lib.hid hg3
            clear hm3 hg3
            go_wp2_with fail
            refine CB.out.mono ?_
            rintro e w5 ⟨rfl, hP5, hk5⟩
            have HP5 := Lib.hid hP5
            have k1 := hP5.cells.c1
            have k2 := hP5.cells.f1
            have HK5 := Lib.hid (HK3.out.trans hk5 (by
              rintro j hj (f | f)
              · exact .inl f
              · rcases HG3.out with f' | f'
                · exact .inr (f'.trans f)
                · injection f with f
                  have f2 : g3 = j := f
                  omega))
            clear hP5 hk5
            go_wp2
            go_end0
            have hE : oneS text.data.toList at' fs = (at' + ((lineS text.data.toList at').1.length + 1), fs ++ [(L.take c, (bodyS at' [] L (c + 1)).1)], (bodyS at' [] L (c + 1)).2) := by
              unfold oneS; rw [if_neg HF.out, HLL.out, if_neg (by rw [HCT.out]; decide), HCD.out, if_neg HCN.out, if_neg (by rw [HV.out]; decide), if_neg (by rw [HNF.out]; exact H64.out)]
            have := one_close (pl0 := pl0) (g := g) hE HP5.out HK5.out
            rw [HLL.out] at this
            exact this
  · have HCT := Lib.hid hcb
    have h0 : 0 < (bsOf L).size := by
      rcases Nat.eq_zero_or_pos (bsOf L).size with h | h
      · rw [bsOf_size] at h
        rw [List.length_eq_zero_iff.1 h] at hcb
        cases hcb
      · exact h
    have HCB : Hid (blkB ((bsOf L)[0]'h0) = true) := Lib.hid ((head_blk L h0).trans HCT.out)
    have hne := ne_of_pos L h0
    have hnt : ¬ (bsOf L).toList = [] := by intro e; rw [e] at hne; cases hne
    clear hcb hix
    generalize Lib.indexByte L 58 = ix at CIB
    rcases List.eq_nil_or_concat fs with hfs | ⟨fs0, fl, hfs⟩
    · have hn0 : nf = 0 := by rw [← HNF.out, hfs]; rfl
      have z0 : ((nf : Int) == 0) = true := by rw [hn0]; rfl
      have HFS := Lib.hid hfs
      clear hn0 hfs
      go_enter Tryz.func92, Tryz.ntmps92
      go_wp2_with fail
      refine CL.out.mono ?_
      rintro e w1 ⟨rfl, hP, hk⟩
      obtain ⟨q0, q1, q3, q4, r1, r2, r3, r4⟩ := hP.cells
      obtain ⟨vf, c2, hown, hgf, A, capf, rfl⟩ := hP.c2
      rw [HNF.out] at c2 hgf
      have HOF := Lib.hid hown
      have HGF := Lib.hid hgf
      have HP := Lib.hid hP
      have HK := Lib.hid (hk.mono (G := fun k => k = p ∨ g = some k) (fun _ _ f => .inl f))
      have hm1 : w1.cell? ⟨0, 0, none⟩ = some (.int .i64 m) := (hk.cell (p := ⟨0, 0, none⟩) h00 hp0).trans hm
      have hw1 := hk.size
      have CI := CIB w1
      clear hP hk hown hgf q0 q3 r1 r2 r3 r4
      go_wp2_with (first
        | (go_at_call 115; refine (isBlank_any _ w1).mono ?_; rintro e w' ⟨rfl, rfl⟩; simp only [HCB.out])
        | (go_at_call 116; refine CI.out.mono ?_; rintro e w' ⟨rfl, rfl⟩)
        | (go_at_call 117; refine (fail_any HP.out at' 3).mono ?_; rintro e w2 ⟨rfl, h2, hk2⟩; have H2 := Lib.hid h2; have HK2 := Lib.hid (HK.out.trans hk2 (fun _ _ f => .inl f)); have k1 := h2.cells.c1; have k2 := h2.cells.f1; clear h2 hk2))
      go_end0
      have hE : oneS text.data.toList at' fs = (at' + ((lineS text.data.toList at').1.length + 1), fs, ((at' : Int), (3 : Int))) := by
        unfold oneS; rw [if_neg HF.out, HLL.out, if_pos HCT.out, HFS.out]; rfl
      have := one_close (pl0 := pl0) (g := g) hE (by rw [stOf_fail (by show (3 : Int) ≠ 0; decide)]; exact H2.out) HK2.out
      rw [HLL.out] at this
      exact this
    · obtain ⟨nm, b⟩ := fl
      rw [List.concat_eq_append] at hfs
      subst hfs
      have hn0 : nf = fs0.length + 1 := by rw [← HNF.out]; simp
      have z0 : ((nf : Int) == 0) = false := beq_eq_false_iff_ne.2 (by omega)
      have hbl : b.length ≤ 8192 := HG.out.body (nm, b) (by simp)
      have hf0 : fs0.length ≤ 1000 := by omega
      clear hn0
      go_enter Tryz.func92, Tryz.ntmps92
      go_wp2_with fail
      refine CL.out.mono ?_
      rintro e w1 ⟨rfl, hP, hk⟩
      obtain ⟨q0, q1, q3, q4, r1, r2, r3, r4⟩ := hP.cells
      obtain ⟨vf, c2, hown, hgf, A, capf, rfl⟩ := hP.c2
      rw [HNF.out] at c2 hgf
      have HOF := Lib.hid hown
      have HGF := Lib.hid hgf
      have HP := Lib.hid hP
      have HK := Lib.hid (hk.mono (G := fun k => k = p ∨ g = some k) (fun _ _ f => .inl f))
      have hm1 : w1.cell? ⟨0, 0, none⟩ = some (.int .i64 m) := (hk.cell (p := ⟨0, 0, none⟩) h00 hp0).trans hm
      have hw1 := hk.size
      have CI := CIB w1
      clear hP hk hown hgf q0 q3 r1 r2 r3 r4
      have CB := body_any HP.out (bsOf L) 0 m (by omega) (by omega) (by omega) (by omega) hf0 hm1 hB
      rw [bsOf_data, show ((0 : Nat) : Int) = 0 from rfl] at CB
      have CB := Lib.hid CB
      clear hm1
      go_wp2_with (first
        | (go_at_call 115; refine (isBlank_any _ w1).mono ?_; rintro e w' ⟨rfl, rfl⟩; simp only [HCB.out])
        | (go_at_call 116; refine CI.out.mono ?_; rintro e w' ⟨rfl, rfl⟩))
      refine CB.out.mono ?_
      rintro e w5 ⟨rfl, hP5, hk5⟩
      have HP5 := Lib.hid hP5
      have k1 := hP5.cells.c1
      have k2 := hP5.cells.f1
      have HK5 := Lib.hid (HK.out.trans hk5 (fun _ _ f => f))
      clear hP5 hk5
      go_wp2
      go_end0
      have hE : oneS text.data.toList at' (fs0 ++ [(nm, b)]) = (at' + ((lineS text.data.toList at').1.length + 1), fs0 ++ [(nm, (bodyS at' b L 0).1)], (bodyS at' b L 0).2) := by
        unfold oneS; rw [if_neg HF.out, HLL.out, if_pos HCT.out]; simp
      have := one_close (pl0 := pl0) (g := g) hE HP5.out HK5.out
      rw [HLL.out] at this
      exact this
end Go.Proofs.YteecmcphbehfgaaGreatDoor
