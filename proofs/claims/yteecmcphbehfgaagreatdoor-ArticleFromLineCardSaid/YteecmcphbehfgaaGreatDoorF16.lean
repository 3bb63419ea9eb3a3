/- A header printed by the program over this translation.
   Conditions: names and bodies of at most 1000000 bytes. -/
import Derived.Test.YteecmcphbehfgaaGreatDoorF15
namespace Go.Proofs.YteecmcphbehfgaaGreatDoor
open Go.RowKit Go.Lib

/-! ### plain -/
def printL : List (List UInt8 × List UInt8) → List UInt8 → List UInt8 × Int
  | [], out => if 65536 < out.length then ([], 5) else (out, 0)
  | f :: r, out => if checkI f.1 f.2 ≠ 0 then ([], checkI f.1 f.2) else printL r (out ++ foldL f.1 f.2)
/-- The header with the given fields, or an error. -/
def printS (fs : List (List UInt8 × List UInt8)) : List UInt8 × Int := if 64 < fs.length then ([], 9) else printL fs []
theorem foldS_len : ∀ (ws : List (List UInt8)) (out line : List UInt8) (first : Bool), (foldS ws out line first).1.length + (foldS ws out line first).2.length ≤ out.length + line.length + lensW ws + 2 * ws.length
  | [], out, line, first => by simp [foldS, lensW]
  | x :: r, out, line, first => by
    have e : lensW (x :: r) = x.length + lensW r := by simp [lensW]
    unfold foldS
    split
    · have := foldS_len r (out ++ (line ++ [10])) ([32] ++ x) false
      simp at this ⊢
      omega
    · have := foldS_len r out (line ++ [32] ++ x) false
      simp at this ⊢
      omega
theorem foldL_len {n b : List UInt8} (h1 : n.length ≤ 1000000) (h2 : b.length ≤ 1000000) : (foldL n b).length ≤ 4000000 := by
  have h := foldS_len (wordsL b) [] (n ++ [58]) true
  have h3 := words_both b
  unfold foldL
  simp at h ⊢
  omega

theorem cellsF_get : ∀ (fs : List (List UInt8 × List UInt8)) (k : Nat) (h : k < fs.length), (cellsF fs)[k * 2]? = some (strV fs[k].1) ∧ (cellsF fs)[k * 2 + 1]? = some (strV fs[k].2)
  | [], _, h => by simp at h
  | f :: r, 0, _ => ⟨rfl, rfl⟩
  | f :: r, k + 1, h => by
    have ih := cellsF_get r k (by simpa using h)
    have e : cellsF (f :: r) = strV f.1 :: strV f.2 :: cellsF r := by simp [cellsF]
    rw [e, show (k + 1) * 2 = k * 2 + 1 + 1 by omega]
    exact ⟨by rw [List.getElem?_cons_succ, List.getElem?_cons_succ]; exact ih.1, by rw [List.getElem?_cons_succ, List.getElem?_cons_succ]; exact ih.2⟩
/-- The fields of an owned row. -/
theorem own_fields {B : Nat} {v : Value} {E : TypeId} {fs : List (List UInt8 × List UInt8)} {w : World} (h : w.ownsRow B E 2 v fs.length (cellsF fs)) (hn : 0 < fs.length) :
    ∃ gb cap, v = .slice (some ⟨gb, 0, none⟩) fs.length cap ∧ gb < w.heap.size ∧ ∀ k (hk : k < fs.length), w.cell? ⟨gb, k * 2, none⟩ = some (strV fs[k].1) ∧ w.cell? ⟨gb, k * 2 + 1, none⟩ = some (strV fs[k].2) := by
  rcases h.2 with ⟨_, h0⟩ | ⟨gb, cap, cur, rfl, _, hg, hnc, _, hcs, ht⟩
  · omega
  · refine ⟨gb, cap, rfl, lt_of_block hg, fun k hk => ?_⟩
    obtain ⟨q0, q1⟩ := cellsF_get fs k hk
    rw [← ht, List.getElem?_take, if_pos (by omega)] at q0 q1
    exact ⟨by rw [Lib.cell_of_heap hg, ← Array.getElem?_toList]; exact q0, by rw [Lib.cell_of_heap hg, ← Array.getElem?_toList]; exact q1⟩
theorem own_shape2 {B n : Nat} {E : TypeId} {v : Value} {xs : List Value} {w : World} (h : w.ownsRow B E 2 v n xs) : ∃ A cap, v = .slice A n cap := by
  rcases h.2 with ⟨rfl, rfl⟩ | ⟨g, cap, _, rfl, _⟩
  · exact ⟨_, _, rfl⟩
  · exact ⟨_, _, rfl⟩

/-- What holds at the head of a round of Print. -/
def PrRel (fs : List (List UInt8 × List UInt8)) (w : World) (v14 : Value) (wr : World) : Prop :=
  ∃ (k : Nat) (out : List UInt8) (g : Option Nat), k ≤ fs.length ∧ v14 = .int .i64 k ∧ LB w.heap.size w.heap.size out g wr ∧ Below w.heap.size w wr ∧ printL (fs.drop k) out = printS fs ∧ out.length ≤ k * 4000000
def PrintPost (fs : List (List UInt8 × List UInt8)) (w : World) (e : Ending) (w' : World) : Prop := e = .returned (.tuple #[strV (printS fs).1, .int .i64 (printS fs).2]) ∧ Below w.heap.size w w'

set_option maxRecDepth 10000 in
set_option maxHeartbeats 2000000 in
theorem print_any {B : Nat} {v : Value} {fs : List (List UInt8 × List UInt8)} {w : World} (h : w.ownsRow B 70 2 v fs.length (cellsF fs)) (hz : ∀ f ∈ fs, f.1.length ≤ 1000000 ∧ f.2.length ≤ 1000000) (hn : fs.length ≤ 1000000) :
    Calls Tryz.prog 43 #[v] w (PrintPost fs w) := by
  have HO := Lib.hid h
  have HZ := Lib.hid hz
  obtain ⟨A, cap, rfl⟩ := own_shape2 h
  clear h hz
  obtain ⟨nf, hnf⟩ : ∃ nf, fs.length = nf := ⟨_, rfl⟩
  have HNF := Lib.hid hnf
  rw [hnf] at hn ⊢
  clear hnf
  by_cases h64 : 64 < nf
  · have HE : Hid (printS fs = ([], 9)) := Lib.hid (by unfold printS; rw [if_pos (by rw [HNF.out]; exact h64)])
    go_enter Tryz.func43, Tryz.ntmps43
    go_wp2
    go_ret2
    exact ⟨by rw [HE.out]; rfl, Below.refl _ _⟩
  have HE : Hid (printL (fs.drop 0) [] = printS fs) := Lib.hid (by unfold printS; rw [if_neg (by rw [HNF.out]; exact h64)]; rfl)
  have HL0 := Lib.hid (LB.new w w.heap.size (Nat.le_refl _))
  go_enter Tryz.func43, Tryz.ntmps43
  go_wp2
  go_loopw [6, 7, 8, 14] (fun _ _ _ v wr => PrRel fs w v wr) (fun _ _ _ v _ => nf - (RowKit.intOf v).toNat)
  case atStart => exact ⟨0, [], none, Nat.zero_le _, rfl, HL0.out, (Below.refl _ _).alloc (Nat.le_refl _) _, HE.out, Nat.zero_le _⟩
  case round =>
    obtain ⟨k, out, g, hk, rfl, hLB, hbl, htot, hsz⟩ := hrel
    rw [HNF.out] at hk
    have HLB := Lib.hid hLB
    have HBL := Lib.hid hbl
    have HT := Lib.hid htot
    have HOr := Lib.hid (own_kept HO.out (kept_of_below hbl) (fun _ _ f => f))
    have hwr := hbl.size
    have hblt := hLB.lt
    clear hLB hbl htot
    by_cases hlt : k < nf
    · have hk' : k < fs.length := by rw [HNF.out]; exact hlt
      obtain ⟨gb, cap', he, hgb, hcell⟩ := own_fields HOr.out (by omega)
      injection he with he1 _ he2
      subst he1; subst he2
      obtain ⟨ck0, ck1⟩ := hcell k hk'
      obtain ⟨z1, z2⟩ := HZ.out fs[k] (List.getElem_mem hk')
      have hfl := foldL_len z1 z2
      have hdr := Lib.hid (List.drop_eq_getElem_cons hk')
      obtain ⟨⟨fn, fb⟩, hfk⟩ : ∃ q, fs[k] = q := ⟨_, rfl⟩
      rw [hfk] at ck0 ck1 z1 z2 hfl hdr
      simp only at ck0 ck1 z1 z2 hfl
      have CF := fun W => fold_any (bsOf fn) (bsOf fb) W (by rw [bsOf_size]; exact z1) (by rw [bsOf_size]; exact z2)
      rw [bsOf_data, bsOf_data] at CF
      have HFL := Lib.hid hfl
      unfold strV at ck0 ck1
      clear hcell hfk hfl
      by_cases hc : checkI fn fb = 0
      · have CF : Hid (∀ W, Calls Tryz.prog 71 #[.agg #[.string (bsOf fn), .string (bsOf fb)]] W fun e w' => e = .returned (.tuple #[.string (bsOf (foldL fn fb)), .int .i64 0]) ∧ Below W.heap.size W w') := Lib.hid fun W => by
          have := CF W
          unfold foldR at this
          rw [if_pos hc, hc] at this
          exact this
        have HC := Lib.hid hc
        clear hc
        go_wp2_with fail
        refine (CF.out _).mono ?_
        rintro e w1 ⟨rfl, hb1⟩
        have HL1 := Lib.hid ((HLB.out.kept (F := fun _ => False) ((Kept.refl _ wr).alloc (.cells #[.string (bsOf fn), .string (bsOf fb)] 70)) (fun f => f) (fun _ _ f => f)).kept (kept_of_below hb1) (fun f => f) (fun _ _ f => f))
        have HB1 := Lib.hid ((HBL.out.alloc hwr (.cells #[.string (bsOf fn), .string (bsOf fb)] 70)).trans (hb1.mono (by simp; omega)))
        have hw1 := HB1.out.size
        clear hb1
        have CW := Lib.hid (lb_Write HL1.out (bsOf (foldL fn fb)) (by rw [bsOf_size]; have := HFL.out; omega))
        go_wp2_with fail
        refine CW.out.mono ?_
        rintro e w2 ⟨rfl, g2, hL2, hk2⟩
        have HL2 := Lib.hid hL2
        have HB2 := Lib.hid (HB1.out.trans (hk2.toBelow (by
          rintro j (f | f)
          · omega
          · exact (HL1.out.glt j f).1) hw1))
        clear hL2 hk2
        go_wp2
        go_roundw
        case rel =>
          refine ⟨k + 1, out ++ foldL fn fb, g2, by omega, by go_num, by have := HL2.out; rw [bsOf_data] at this; exact this, HB2.out, ?_, ?_⟩
          · rw [← HT.out, hdr.out, printL, if_neg (by intro f; exact f HC.out)]
          · have := HFL.out
            rw [List.length_append]
            omega
        case measure => simp [RowKit.intOf]; omega
      · obtain ⟨code, hcode⟩ : ∃ code, checkI fn fb = code := ⟨_, rfl⟩
        have CF : Hid (∀ W, Calls Tryz.prog 71 #[.agg #[.string (bsOf fn), .string (bsOf fb)]] W fun e w' => e = .returned (.tuple #[.string (bsOf []), .int .i64 code]) ∧ Below W.heap.size W w') := Lib.hid fun W => by
          have := CF W
          unfold foldR at this
          rw [if_neg hc, hcode] at this
          exact this
        have hcb : (code != 0) = true := by rw [bne, beq_eq_false_iff_ne.2 (by rw [← hcode]; exact hc)]; rfl
        have HTT : Hid (printS fs = ([], code)) := Lib.hid (by rw [← HT.out, hdr.out, printL, if_pos hc, hcode])
        clear hc hcode
        go_wp2_with fail
        refine (CF.out _).mono ?_
        rintro e w1 ⟨rfl, hb1⟩
        have HB1 := Lib.hid ((HBL.out.alloc hwr (.cells #[.string (bsOf fn), .string (bsOf fb)] 70)).trans (hb1.mono (by simp; omega)))
        clear hb1
        go_wp2
        go_ret2
        exact ⟨by rw [HTT.out]; rfl, HB1.out⟩
    · obtain rfl : k = nf := by omega
      have CLen := Lib.hid (lb_Len HLB.out)
      have HT2 : Hid ((if 65536 < out.length then (([] : List UInt8), (5 : Int)) else (out, 0)) = printS fs) := Lib.hid (by rw [← HT.out, ← HNF.out, List.drop_length]; rfl)
      by_cases h6 : 65536 < out.length
      · have HT3 : Hid (printS fs = ([], 5)) := Lib.hid (by rw [← HT2.out, if_pos h6])
        go_wp2_with (go_at_call 49; refine CLen.out.mono ?_; rintro e w' ⟨rfl, rfl⟩)
        go_ret2
        exact ⟨by rw [HT3.out]; rfl, HBL.out⟩
      · have HT3 : Hid (printS fs = (out, 0)) := Lib.hid (by rw [← HT2.out, if_neg h6])
        have CS := Lib.hid (lb_String HLB.out)
        go_wp2_with (first
          | (go_at_call 49; refine CLen.out.mono ?_; rintro e w' ⟨rfl, rfl⟩)
          | (go_at_call 50; refine CS.out.mono ?_; rintro e w4 ⟨rfl, _, hk4⟩; have HB4 := Lib.hid (HBL.out.trans (hk4.toBelow (fun j f => (HLB.out.glt j f).1) hwr)); clear hk4))
        go_ret2
        exact ⟨by rw [HT3.out]; rfl, HB4.out⟩
end Go.Proofs.YteecmcphbehfgaaGreatDoor
