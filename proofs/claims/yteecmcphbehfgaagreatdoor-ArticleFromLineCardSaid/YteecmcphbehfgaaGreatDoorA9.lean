/- utf8: Encode. Conditions: a code point. -/
import Derived.Test.YteecmcphbehfgaaGreatDoorA8
import Derived.Test.YteecmcphbehfgaaGreatDoorF16
import Derived.Laws.IdiomStrings
namespace Go.Proofs.YteecmcphbehfgaaGreatDoor
open Go.RowKit Go.Lib

theorem Tryz.u8_info : (Tryz.prog.info? 5).map (fun i => (i.zero, i.size, i.bytes)) = some (some (.int .u8 0), 1, 1) := by kernel_rfl
theorem conv_of {w : World} {bo : Nat} {l : List UInt8} {cs : Array Value} (h : w.heap[bo]? = some (.cells cs 5 (0, 0))) (hc : cs.toList = l.map (fun c => Value.int .u8 (c.toNat : Int))) (n cap : Nat) (hn : l.length = n) :
    (convert 63 9 (.slice (some ⟨bo, 0, none⟩) n cap)).run Tryz.prog w = .ok (.string (bsOf l)) w := by
  subst hn
  refine run_convert_bytes_back w 63 9 5 ⟨bo, 0, none⟩ cap l Tryz.underlying63 Tryz.underlying5 Tryz.underlying9 (fun j hj => ?_)
  rw [show (⟨bo, 0, none⟩ : Addr).add j = ⟨bo, j, none⟩ by simp [Addr.add]; exact fun h => h.symm, Lib.cell_of_heap h, ← Array.getElem?_toList, hc, List.getElem?_map, List.getElem?_eq_getElem hj]
  rfl
set_option maxRecDepth 100000 in
set_option maxHeartbeats 2000000 in
theorem encode_1 (r : Nat) (h1 : 0 ≤ r) (h2 : r ≤ 127) (w : World) : Calls Tryz.prog 60 #[.int .i32 (r : Int)] w fun e w' => e = .returned (.tuple #[strV (encL r), .int .i64 0]) ∧ Below w.heap.size w w' := by
  have C := Lib.hid classes_any
  have x0 : ∀ w, (Instr.index 128 (.agg clsA) (.int .i64 0)).run Tryz.prog w = .ok (.agg #[.int .u8 0, .int .u8 127, .int .u8 127, .int .i32 0, .int .i32 127]) w := fun _ => by kernel_rfl
  have W0 : Hid (∀ W, Calls Tryz.prog 88 #[.agg #[.int .u8 0, .int .u8 127, .int .u8 127, .int .i32 0, .int .i32 127], .int .i32 (r : Int)] W fun e w' => e = .returned (.bool true) ∧ Below W.heap.size W w') := Lib.hid fun W => by
    have := within_any r 0 127 0 127 127 (by omega) (by omega) W
    rw [decide_eq_true (show 0 ≤ r by omega), decide_eq_true (show r ≤ 127 by omega)] at this
    exact this
  have HS1 := Lib.hid h1
  have HS2 := Lib.hid h2
  clear h1 h2
  go_enter Tryz.func60, Tryz.ntmps60
  go_wp2_with fail
  refine (C.out _).mono ?_
  rintro e w1 ⟨rfl, hb1⟩
  have HB := Lib.hid hb1
  clear hb1
  go_wp2
  go_loopw [0, 9] (fun v0 v wr => ∃ k : Nat, k ≤ 0 ∧ v0 = .int .i32 (r : Int) ∧ v = .int .i64 k ∧ Below w.heap.size w wr) (fun _ v _ => 4 - (RowKit.intOf v).toNat)
  case atStart => exact ⟨0, by omega, rfl, rfl, HB.out⟩
  case round =>
    obtain ⟨k, hk, rfl, rfl, hbk⟩ := hrel
    obtain ⟨wq, rfl⟩ : ∃ x, x = wr := ⟨_, rfl⟩
    have HK := Lib.hid hbk
    clear hbk
    rcases (by omega : k = 0) with rfl
    · have HA := Lib.hid (HK.out.alloc HK.out.size (Obj.cells #[.int .u8 0, .int .u8 127, .int .u8 127, .int .i32 0, .int .i32 127] 127))
      go_wp2_with fail
      refine (W0.out _).mono ?_
      rintro e w2 ⟨rfl, hb2⟩
      have HB2 := Lib.hid (HA.out.trans (hb2.mono HA.out.size))
      have HC : Hid (w2.heap[wq.heap.size]? = some (.cells #[.int .u8 0, .int .u8 127, .int .u8 127, .int .i32 0, .int .i32 127] 127 (0, 0))) := Lib.hid ((hb2.block _ (by simp)).trans (heap_alloc_new wq _))
      clear hb2
      have hms : (Instr.makeSlice 63 (.int .i64 1) (.int .i64 1)).run Tryz.prog w2 = .ok (.slice (some ⟨w2.heap.size, 0, none⟩) 1 1) (w2.alloc (.cells #[.int .u8 0] 5)) := by
        obtain ⟨i0, hi, hz0, hz1, hz2⟩ := info_parts Tryz.u8_info
        have := run_makeSlice (P := Tryz.prog) (w := w2) 63 5 i0 _ Tryz.underlying63 hi hz0 .i64 .i64 1 1 (by omega) (by omega) (by rw [hz1]; decide) (by rw [hz2]; decide) (by omega)
        rw [hz1, show madeCells (Value.int .u8 0).cells (Int.toNat 1 * 1) = #[.int .u8 0] from by kernel_rfl] at this
        exact this
      have HC2 : Hid ((w2.alloc (.cells #[.int .u8 0] 5)).heap[wq.heap.size]? = some (.cells #[.int .u8 0, .int .u8 127, .int .u8 127, .int .i32 0, .int .i32 127] 127 (0, 0))) := Lib.hid ((Below.heap_alloc _ _ _ (lt_of_block HC.out)).trans HC.out)
      have HO2 : Hid ((w2.alloc (.cells #[.int .u8 0] 5)).heap[w2.heap.size]? = some (.cells #[.int .u8 0] 5 (0, 0))) := Lib.hid (heap_alloc_new w2 _)
      have HB3 := Lib.hid (HB2.out.alloc HB2.out.size (.cells #[.int .u8 0] 5))
      have hlt2 : wq.heap.size < w2.heap.size := lt_of_block HC.out
      have hge2 : w.heap.size ≤ wq.heap.size := HK.out.size
      clear HC
      go_wp2
      clear hms
      generalize w2.heap.size = bo at *
      generalize wq.heap.size = bk at *

      go_loopw [0, 7] (fun v0 v7 wr => ((v7 = .int .i64 0 ∧ v0 = .int .i32 ((r / 1 : Nat) : Int) ∧ wr.heap[bo]? = some (.cells #[.int .u8 0] 5 (0, 0)))) ∧ wr.heap[bk]? = some (.cells #[.int .u8 0, .int .u8 127, .int .u8 127, .int .i32 0, .int .i32 127] 127 (0, 0)) ∧ Below w.heap.size w wr) (fun _ v _ => (RowKit.intOf v).toNat)
      case atStart => exact ⟨⟨rfl, by rw [Nat.div_one], HO2.out⟩, HC2.out, HB3.out⟩
      case round =>
        obtain ⟨hcs, hbk, hbl⟩ := hrel
        have HBK := Lib.hid hbk
        have HBL := Lib.hid hbl
        clear hbk hbl
        rcases hcs with ⟨rfl, rfl, hbo⟩
        · have c0 : wr.cell? ⟨bo, 0, none⟩ = some (.int .u8 0) := by rw [Lib.cell_of_heap hbo]; rfl
          have f0 : wr.frozen? ⟨bo, 0, none⟩ = false := Lib.frozen_of_heap hbo 0
          have HBO := Lib.hid hbo
          obtain ⟨rr, hrr⟩ : ∃ x : Nat, r / 1 = x := ⟨_, rfl⟩
          have hh1 := HS2.out
          have hrb : rr ≤ 127 := by omega
          rw [hrr]
          have ck0 : wr.cell? ⟨bk, 0, none⟩ = some (.int .u8 0) := by rw [Lib.cell_of_heap HBK.out]; rfl
          have ck2 : wr.cell? ⟨bk, 2, none⟩ = some (.int .u8 127) := by rw [Lib.cell_of_heap HBK.out]; rfl
          have han : bits BinOp.andNot IntKind.u8 0 127 = 0 := by decide +kernel
          have hmod : (rr : Int) % 256 = (rr : Int) := by omega
          have hor : bits BinOp.or IntKind.u8 0 (rr : Int) = ((0 + rr : Nat) : Int) := by
            rw [bits_join .u8 8 (by decide) wraps_u8 7 0 (rr : Int) (by omega) (by decide) (by decide) (by omega) (by omega) (by omega)]
            omega
          have hh0 := HS1.out
          have hel : encL r = [u8N (r)] := by unfold encL; rw [if_pos (by omega)]
          have hconv : (convert 63 9 (.slice (some ⟨bo, 0, none⟩) 1 1)).run Tryz.prog (wr.setCell ⟨bo, 0, none⟩ (.int .u8 (rr : Int))) = .ok (.string (bsOf (encL r))) (wr.setCell ⟨bo, 0, none⟩ (.int .u8 (rr : Int))) := by
            refine conv_of (heap_setCell_same _ _ _ _ _ _ HBO.out) ?_ 1 1 (by rw [hel]; rfl)
            rw [hel]
            show [Value.int .u8 (rr : Int)] = [Value.int .u8 ((u8N (r)).toNat : Int)]
            simp only [List.cons.injEq, Value.int.injEq, true_and, and_true]
            rw [u8N_toNat (by omega)]
            omega
          clear hbo hrr hh1 hh0 hel
          go_wp2
          go_ret2
          exact ⟨rfl, HBL.out.setCell (p := ⟨bo, 0, none⟩) (by show w.heap.size ≤ bo; omega) _⟩

set_option maxRecDepth 100000 in
set_option maxHeartbeats 2000000 in
theorem encode_2 (r : Nat) (h1 : 128 ≤ r) (h2 : r ≤ 2047) (w : World) : Calls Tryz.prog 60 #[.int .i32 (r : Int)] w fun e w' => e = .returned (.tuple #[strV (encL r), .int .i64 0]) ∧ Below w.heap.size w w' := by
  have C := Lib.hid classes_any
  have x0 : ∀ w, (Instr.index 128 (.agg clsA) (.int .i64 0)).run Tryz.prog w = .ok (.agg #[.int .u8 0, .int .u8 127, .int .u8 127, .int .i32 0, .int .i32 127]) w := fun _ => by kernel_rfl
  have W0 : Hid (∀ W, Calls Tryz.prog 88 #[.agg #[.int .u8 0, .int .u8 127, .int .u8 127, .int .i32 0, .int .i32 127], .int .i32 (r : Int)] W fun e w' => e = .returned (.bool false) ∧ Below W.heap.size W w') := Lib.hid fun W => by
    have := within_any r 0 127 0 127 127 (by omega) (by omega) W
    rw [decide_eq_false (show ¬ r ≤ 127 by omega), Bool.and_false] at this
    exact this
  have x1 : ∀ w, (Instr.index 128 (.agg clsA) (.int .i64 1)).run Tryz.prog w = .ok (.agg #[.int .u8 194, .int .u8 223, .int .u8 31, .int .i32 128, .int .i32 2047]) w := fun _ => by kernel_rfl
  have W1 : Hid (∀ W, Calls Tryz.prog 88 #[.agg #[.int .u8 194, .int .u8 223, .int .u8 31, .int .i32 128, .int .i32 2047], .int .i32 (r : Int)] W fun e w' => e = .returned (.bool true) ∧ Below W.heap.size W w') := Lib.hid fun W => by
    have := within_any r 128 2047 194 223 31 (by omega) (by omega) W
    rw [decide_eq_true (show 128 ≤ r by omega), decide_eq_true (show r ≤ 2047 by omega)] at this
    exact this
  have HS1 := Lib.hid h1
  have HS2 := Lib.hid h2
  clear h1 h2
  go_enter Tryz.func60, Tryz.ntmps60
  go_wp2_with fail
  refine (C.out _).mono ?_
  rintro e w1 ⟨rfl, hb1⟩
  have HB := Lib.hid hb1
  clear hb1
  go_wp2
  go_loopw [0, 9] (fun v0 v wr => ∃ k : Nat, k ≤ 1 ∧ v0 = .int .i32 (r : Int) ∧ v = .int .i64 k ∧ Below w.heap.size w wr) (fun _ v _ => 4 - (RowKit.intOf v).toNat)
  case atStart => exact ⟨0, by omega, rfl, rfl, HB.out⟩
  case round =>
    obtain ⟨k, hk, rfl, rfl, hbk⟩ := hrel
    obtain ⟨wq, rfl⟩ : ∃ x, x = wr := ⟨_, rfl⟩
    have HK := Lib.hid hbk
    clear hbk
    rcases (by omega : k = 0 ∨ k = 1) with rfl | rfl
    · have HA := Lib.hid (HK.out.alloc HK.out.size (Obj.cells #[.int .u8 0, .int .u8 127, .int .u8 127, .int .i32 0, .int .i32 127] 127))
      go_wp2_with fail
      refine (W0.out _).mono ?_
      rintro e w2 ⟨rfl, hb2⟩
      have HB2 := Lib.hid (HA.out.trans (hb2.mono HA.out.size))
      clear hb2
      go_wp2
      go_roundw
      case rel => exact ⟨1, by omega, rfl, rfl, HB2.out⟩
      case measure => simp [RowKit.intOf]
    · have HA := Lib.hid (HK.out.alloc HK.out.size (Obj.cells #[.int .u8 194, .int .u8 223, .int .u8 31, .int .i32 128, .int .i32 2047] 127))
      go_wp2_with fail
      refine (W1.out _).mono ?_
      rintro e w2 ⟨rfl, hb2⟩
      have HB2 := Lib.hid (HA.out.trans (hb2.mono HA.out.size))
      have HC : Hid (w2.heap[wq.heap.size]? = some (.cells #[.int .u8 194, .int .u8 223, .int .u8 31, .int .i32 128, .int .i32 2047] 127 (0, 0))) := Lib.hid ((hb2.block _ (by simp)).trans (heap_alloc_new wq _))
      clear hb2
      have hms : (Instr.makeSlice 63 (.int .i64 2) (.int .i64 2)).run Tryz.prog w2 = .ok (.slice (some ⟨w2.heap.size, 0, none⟩) 2 2) (w2.alloc (.cells #[.int .u8 0, .int .u8 0] 5)) := by
        obtain ⟨i0, hi, hz0, hz1, hz2⟩ := info_parts Tryz.u8_info
        have := run_makeSlice (P := Tryz.prog) (w := w2) 63 5 i0 _ Tryz.underlying63 hi hz0 .i64 .i64 2 2 (by omega) (by omega) (by rw [hz1]; decide) (by rw [hz2]; decide) (by omega)
        rw [hz1, show madeCells (Value.int .u8 0).cells (Int.toNat 2 * 1) = #[.int .u8 0, .int .u8 0] from by kernel_rfl] at this
        exact this
      have HC2 : Hid ((w2.alloc (.cells #[.int .u8 0, .int .u8 0] 5)).heap[wq.heap.size]? = some (.cells #[.int .u8 194, .int .u8 223, .int .u8 31, .int .i32 128, .int .i32 2047] 127 (0, 0))) := Lib.hid ((Below.heap_alloc _ _ _ (lt_of_block HC.out)).trans HC.out)
      have HO2 : Hid ((w2.alloc (.cells #[.int .u8 0, .int .u8 0] 5)).heap[w2.heap.size]? = some (.cells #[.int .u8 0, .int .u8 0] 5 (0, 0))) := Lib.hid (heap_alloc_new w2 _)
      have HB3 := Lib.hid (HB2.out.alloc HB2.out.size (.cells #[.int .u8 0, .int .u8 0] 5))
      have hlt2 : wq.heap.size < w2.heap.size := lt_of_block HC.out
      have hge2 : w.heap.size ≤ wq.heap.size := HK.out.size
      clear HC
      go_wp2
      clear hms
      generalize w2.heap.size = bo at *
      generalize wq.heap.size = bk at *

      go_loopw [0, 7] (fun v0 v7 wr => ((v7 = .int .i64 1 ∧ v0 = .int .i32 ((r / 1 : Nat) : Int) ∧ wr.heap[bo]? = some (.cells #[.int .u8 0, .int .u8 0] 5 (0, 0))) ∨ (v7 = .int .i64 0 ∧ v0 = .int .i32 ((r / 64 : Nat) : Int) ∧ wr.heap[bo]? = some (.cells #[.int .u8 0, .int .u8 ((128 + r / 1 % 64 : Nat) : Int)] 5 (0, 0)))) ∧ wr.heap[bk]? = some (.cells #[.int .u8 194, .int .u8 223, .int .u8 31, .int .i32 128, .int .i32 2047] 127 (0, 0)) ∧ Below w.heap.size w wr) (fun _ v _ => (RowKit.intOf v).toNat)
      case atStart => exact ⟨.inl ⟨rfl, by rw [Nat.div_one], HO2.out⟩, HC2.out, HB3.out⟩
      case round =>
        obtain ⟨hcs, hbk, hbl⟩ := hrel
        have HBK := Lib.hid hbk
        have HBL := Lib.hid hbl
        clear hbk hbl
        rcases hcs with ⟨rfl, rfl, hbo⟩ | ⟨rfl, rfl, hbo⟩
        · have c0 : wr.cell? ⟨bo, 1, none⟩ = some (.int .u8 0) := by rw [Lib.cell_of_heap hbo]; rfl
          have f0 : wr.frozen? ⟨bo, 1, none⟩ = false := Lib.frozen_of_heap hbo 1
          have HBO := Lib.hid hbo
          obtain ⟨rr, hrr⟩ : ∃ x : Nat, r / 1 = x := ⟨_, rfl⟩
          have hh1 := HS2.out
          have hrb : rr ≤ 2047 := by omega
          rw [hrr]
          obtain ⟨x, hx⟩ : ∃ x : Nat, rr % 64 = x := ⟨_, rfl⟩
          have hx64 : x < 64 := by omega
          have hand : bits BinOp.and IntKind.i32 (rr : Int) 63 = (x : Int) := by
            have := bits_mask .i32 31 (by decide) wraps_i32 6 (by omega) (rr : Int) (by omega) (by omega)
            have e : ((2 : Int) ^ 6 - 1) = 63 := rfl
            rw [e] at this
            rw [this, ← hx]
            rfl
          have hmod : (x : Int) % 256 = (x : Int) := by omega
          have hor : bits BinOp.or IntKind.u8 128 (x : Int) = ((128 + x : Nat) : Int) := by
            rw [bits_join .u8 8 (by decide) wraps_u8 6 128 (x : Int) (by omega) (by decide) (by decide) (by omega) (by omega) (by omega)]
            rfl
          have HX := Lib.hid hx
          have HRR := Lib.hid hrr
          clear hbo hrr hx hh1 hmod
          go_wp2
          go_roundw
          case rel =>
            refine ⟨.inr (⟨rfl, by congr 1; have := HRR.out; omega, ?_⟩), (Below.heap_setCell _ _ _ _ (by show bk ≠ bo; omega)).trans HBK.out, HBL.out.setCell (p := ⟨bo, 1, none⟩) (by show w.heap.size ≤ bo; omega) _⟩
            rw [heap_setCell_same _ _ _ _ _ _ HBO.out, show ((128 + rr % 64 : Nat) : Int) = 128 + (x : Int) by have := HX.out; omega]
            rfl
          case measure => simp [RowKit.intOf]
        · have c0 : wr.cell? ⟨bo, 0, none⟩ = some (.int .u8 0) := by rw [Lib.cell_of_heap hbo]; rfl
          have f0 : wr.frozen? ⟨bo, 0, none⟩ = false := Lib.frozen_of_heap hbo 0
          have HBO := Lib.hid hbo
          obtain ⟨rr, hrr⟩ : ∃ x : Nat, r / 64 = x := ⟨_, rfl⟩
          have hh1 := HS2.out
          have hrb : rr ≤ 31 := by omega
          rw [hrr]
          have ck0 : wr.cell? ⟨bk, 0, none⟩ = some (.int .u8 194) := by rw [Lib.cell_of_heap HBK.out]; rfl
          have ck2 : wr.cell? ⟨bk, 2, none⟩ = some (.int .u8 31) := by rw [Lib.cell_of_heap HBK.out]; rfl
          have han : bits BinOp.andNot IntKind.u8 194 31 = 192 := by decide +kernel
          have hmod : (rr : Int) % 256 = (rr : Int) := by omega
          have hor : bits BinOp.or IntKind.u8 192 (rr : Int) = ((192 + rr : Nat) : Int) := by
            rw [bits_join .u8 8 (by decide) wraps_u8 5 192 (rr : Int) (by omega) (by decide) (by decide) (by omega) (by omega) (by omega)]
            omega
          have hh0 := HS1.out
          have hel : encL r = [u8N (192 + r / 64), u8N (128 + r % 64)] := by unfold encL; rw [if_neg (by omega), if_pos (by omega)]
          have hconv : (convert 63 9 (.slice (some ⟨bo, 0, none⟩) 2 2)).run Tryz.prog (wr.setCell ⟨bo, 0, none⟩ (.int .u8 (192 + (rr : Int)))) = .ok (.string (bsOf (encL r))) (wr.setCell ⟨bo, 0, none⟩ (.int .u8 (192 + (rr : Int)))) := by
            refine conv_of (heap_setCell_same _ _ _ _ _ _ HBO.out) ?_ 2 2 (by rw [hel]; rfl)
            rw [hel]
            show [Value.int .u8 (192 + (rr : Int)), .int .u8 ((128 + r / 1 % 64 : Nat) : Int)] = [Value.int .u8 ((u8N (192 + r / 64)).toNat : Int), Value.int .u8 ((u8N (128 + r % 64)).toNat : Int)]
            simp only [List.cons.injEq, Value.int.injEq, true_and, and_true]
            rw [u8N_toNat (by omega), u8N_toNat (by omega)]
            omega
          clear hbo hrr hh1 hh0 hel
          go_wp2
          go_ret2
          exact ⟨rfl, HBL.out.setCell (p := ⟨bo, 0, none⟩) (by show w.heap.size ≤ bo; omega) _⟩

set_option maxRecDepth 100000 in
set_option maxHeartbeats 2000000 in
theorem encode_3 (r : Nat) (h1 : 2048 ≤ r) (h2 : r ≤ 65535) (hsu : ¬ (55296 ≤ r ∧ r ≤ 57343)) (w : World) : Calls Tryz.prog 60 #[.int .i32 (r : Int)] w fun e w' => e = .returned (.tuple #[strV (encL r), .int .i64 0]) ∧ Below w.heap.size w w' := by
  have C := Lib.hid classes_any
  have x0 : ∀ w, (Instr.index 128 (.agg clsA) (.int .i64 0)).run Tryz.prog w = .ok (.agg #[.int .u8 0, .int .u8 127, .int .u8 127, .int .i32 0, .int .i32 127]) w := fun _ => by kernel_rfl
  have W0 : Hid (∀ W, Calls Tryz.prog 88 #[.agg #[.int .u8 0, .int .u8 127, .int .u8 127, .int .i32 0, .int .i32 127], .int .i32 (r : Int)] W fun e w' => e = .returned (.bool false) ∧ Below W.heap.size W w') := Lib.hid fun W => by
    have := within_any r 0 127 0 127 127 (by omega) (by omega) W
    rw [decide_eq_false (show ¬ r ≤ 127 by omega), Bool.and_false] at this
    exact this
  have x1 : ∀ w, (Instr.index 128 (.agg clsA) (.int .i64 1)).run Tryz.prog w = .ok (.agg #[.int .u8 194, .int .u8 223, .int .u8 31, .int .i32 128, .int .i32 2047]) w := fun _ => by kernel_rfl
  have W1 : Hid (∀ W, Calls Tryz.prog 88 #[.agg #[.int .u8 194, .int .u8 223, .int .u8 31, .int .i32 128, .int .i32 2047], .int .i32 (r : Int)] W fun e w' => e = .returned (.bool false) ∧ Below W.heap.size W w') := Lib.hid fun W => by
    have := within_any r 128 2047 194 223 31 (by omega) (by omega) W
    rw [decide_eq_false (show ¬ r ≤ 2047 by omega), Bool.and_false] at this
    exact this
  have x2 : ∀ w, (Instr.index 128 (.agg clsA) (.int .i64 2)).run Tryz.prog w = .ok (.agg #[.int .u8 224, .int .u8 239, .int .u8 15, .int .i32 2048, .int .i32 65535]) w := fun _ => by kernel_rfl
  have W2 : Hid (∀ W, Calls Tryz.prog 88 #[.agg #[.int .u8 224, .int .u8 239, .int .u8 15, .int .i32 2048, .int .i32 65535], .int .i32 (r : Int)] W fun e w' => e = .returned (.bool true) ∧ Below W.heap.size W w') := Lib.hid fun W => by
    have := within_any r 2048 65535 224 239 15 (by omega) (by omega) W
    rw [decide_eq_true (show 2048 ≤ r by omega), decide_eq_true (show r ≤ 65535 by omega)] at this
    exact this
  have HS1 := Lib.hid h1
  have HS2 := Lib.hid h2
  clear h1 h2
  go_enter Tryz.func60, Tryz.ntmps60
  go_wp2_with fail
  refine (C.out _).mono ?_
  rintro e w1 ⟨rfl, hb1⟩
  have HB := Lib.hid hb1
  clear hb1
  go_wp2
  go_loopw [0, 9] (fun v0 v wr => ∃ k : Nat, k ≤ 2 ∧ v0 = .int .i32 (r : Int) ∧ v = .int .i64 k ∧ Below w.heap.size w wr) (fun _ v _ => 4 - (RowKit.intOf v).toNat)
  case atStart => exact ⟨0, by omega, rfl, rfl, HB.out⟩
  case round =>
    obtain ⟨k, hk, rfl, rfl, hbk⟩ := hrel
    obtain ⟨wq, rfl⟩ : ∃ x, x = wr := ⟨_, rfl⟩
    have HK := Lib.hid hbk
    clear hbk
    rcases (by omega : k = 0 ∨ k = 1 ∨ k = 2) with rfl | rfl | rfl
    · have HA := Lib.hid (HK.out.alloc HK.out.size (Obj.cells #[.int .u8 0, .int .u8 127, .int .u8 127, .int .i32 0, .int .i32 127] 127))
      go_wp2_with fail
      refine (W0.out _).mono ?_
      rintro e w2 ⟨rfl, hb2⟩
      have HB2 := Lib.hid (HA.out.trans (hb2.mono HA.out.size))
      clear hb2
      go_wp2
      go_roundw
      case rel => exact ⟨1, by omega, rfl, rfl, HB2.out⟩
      case measure => simp [RowKit.intOf]
    · have HA := Lib.hid (HK.out.alloc HK.out.size (Obj.cells #[.int .u8 194, .int .u8 223, .int .u8 31, .int .i32 128, .int .i32 2047] 127))
      go_wp2_with fail
      refine (W1.out _).mono ?_
      rintro e w2 ⟨rfl, hb2⟩
      have HB2 := Lib.hid (HA.out.trans (hb2.mono HA.out.size))
      clear hb2
      go_wp2
      go_roundw
      case rel => exact ⟨2, by omega, rfl, rfl, HB2.out⟩
      case measure => simp [RowKit.intOf]
    · have HA := Lib.hid (HK.out.alloc HK.out.size (Obj.cells #[.int .u8 224, .int .u8 239, .int .u8 15, .int .i32 2048, .int .i32 65535] 127))
      go_wp2_with fail
      refine (W2.out _).mono ?_
      rintro e w2 ⟨rfl, hb2⟩
      have HB2 := Lib.hid (HA.out.trans (hb2.mono HA.out.size))
      have HC : Hid (w2.heap[wq.heap.size]? = some (.cells #[.int .u8 224, .int .u8 239, .int .u8 15, .int .i32 2048, .int .i32 65535] 127 (0, 0))) := Lib.hid ((hb2.block _ (by simp)).trans (heap_alloc_new wq _))
      clear hb2
      have hms : (Instr.makeSlice 63 (.int .i64 3) (.int .i64 3)).run Tryz.prog w2 = .ok (.slice (some ⟨w2.heap.size, 0, none⟩) 3 3) (w2.alloc (.cells #[.int .u8 0, .int .u8 0, .int .u8 0] 5)) := by
        obtain ⟨i0, hi, hz0, hz1, hz2⟩ := info_parts Tryz.u8_info
        have := run_makeSlice (P := Tryz.prog) (w := w2) 63 5 i0 _ Tryz.underlying63 hi hz0 .i64 .i64 3 3 (by omega) (by omega) (by rw [hz1]; decide) (by rw [hz2]; decide) (by omega)
        rw [hz1, show madeCells (Value.int .u8 0).cells (Int.toNat 3 * 1) = #[.int .u8 0, .int .u8 0, .int .u8 0] from by kernel_rfl] at this
        exact this
      have HC2 : Hid ((w2.alloc (.cells #[.int .u8 0, .int .u8 0, .int .u8 0] 5)).heap[wq.heap.size]? = some (.cells #[.int .u8 224, .int .u8 239, .int .u8 15, .int .i32 2048, .int .i32 65535] 127 (0, 0))) := Lib.hid ((Below.heap_alloc _ _ _ (lt_of_block HC.out)).trans HC.out)
      have HO2 : Hid ((w2.alloc (.cells #[.int .u8 0, .int .u8 0, .int .u8 0] 5)).heap[w2.heap.size]? = some (.cells #[.int .u8 0, .int .u8 0, .int .u8 0] 5 (0, 0))) := Lib.hid (heap_alloc_new w2 _)
      have HB3 := Lib.hid (HB2.out.alloc HB2.out.size (.cells #[.int .u8 0, .int .u8 0, .int .u8 0] 5))
      have hlt2 : wq.heap.size < w2.heap.size := lt_of_block HC.out
      have hge2 : w.heap.size ≤ wq.heap.size := HK.out.size
      clear HC
      go_wp2
      clear hms
      generalize w2.heap.size = bo at *
      generalize wq.heap.size = bk at *

      go_loopw [0, 7] (fun v0 v7 wr => ((v7 = .int .i64 2 ∧ v0 = .int .i32 ((r / 1 : Nat) : Int) ∧ wr.heap[bo]? = some (.cells #[.int .u8 0, .int .u8 0, .int .u8 0] 5 (0, 0))) ∨ (v7 = .int .i64 1 ∧ v0 = .int .i32 ((r / 64 : Nat) : Int) ∧ wr.heap[bo]? = some (.cells #[.int .u8 0, .int .u8 0, .int .u8 ((128 + r / 1 % 64 : Nat) : Int)] 5 (0, 0))) ∨ (v7 = .int .i64 0 ∧ v0 = .int .i32 ((r / 4096 : Nat) : Int) ∧ wr.heap[bo]? = some (.cells #[.int .u8 0, .int .u8 ((128 + r / 64 % 64 : Nat) : Int), .int .u8 ((128 + r / 1 % 64 : Nat) : Int)] 5 (0, 0)))) ∧ wr.heap[bk]? = some (.cells #[.int .u8 224, .int .u8 239, .int .u8 15, .int .i32 2048, .int .i32 65535] 127 (0, 0)) ∧ Below w.heap.size w wr) (fun _ v _ => (RowKit.intOf v).toNat)
      case atStart => exact ⟨.inl ⟨rfl, by rw [Nat.div_one], HO2.out⟩, HC2.out, HB3.out⟩
      case round =>
        obtain ⟨hcs, hbk, hbl⟩ := hrel
        have HBK := Lib.hid hbk
        have HBL := Lib.hid hbl
        clear hbk hbl
        rcases hcs with ⟨rfl, rfl, hbo⟩ | ⟨rfl, rfl, hbo⟩ | ⟨rfl, rfl, hbo⟩
        · have c0 : wr.cell? ⟨bo, 2, none⟩ = some (.int .u8 0) := by rw [Lib.cell_of_heap hbo]; rfl
          have f0 : wr.frozen? ⟨bo, 2, none⟩ = false := Lib.frozen_of_heap hbo 2
          have HBO := Lib.hid hbo
          obtain ⟨rr, hrr⟩ : ∃ x : Nat, r / 1 = x := ⟨_, rfl⟩
          have hh1 := HS2.out
          have hrb : rr ≤ 65535 := by omega
          rw [hrr]
          obtain ⟨x, hx⟩ : ∃ x : Nat, rr % 64 = x := ⟨_, rfl⟩
          have hx64 : x < 64 := by omega
          have hand : bits BinOp.and IntKind.i32 (rr : Int) 63 = (x : Int) := by
            have := bits_mask .i32 31 (by decide) wraps_i32 6 (by omega) (rr : Int) (by omega) (by omega)
            have e : ((2 : Int) ^ 6 - 1) = 63 := rfl
            rw [e] at this
            rw [this, ← hx]
            rfl
          have hmod : (x : Int) % 256 = (x : Int) := by omega
          have hor : bits BinOp.or IntKind.u8 128 (x : Int) = ((128 + x : Nat) : Int) := by
            rw [bits_join .u8 8 (by decide) wraps_u8 6 128 (x : Int) (by omega) (by decide) (by decide) (by omega) (by omega) (by omega)]
            rfl
          have HX := Lib.hid hx
          have HRR := Lib.hid hrr
          clear hbo hrr hx hh1 hmod
          go_wp2
          go_roundw
          case rel =>
            refine ⟨.inr (.inl ⟨rfl, by congr 1; have := HRR.out; omega, ?_⟩), (Below.heap_setCell _ _ _ _ (by show bk ≠ bo; omega)).trans HBK.out, HBL.out.setCell (p := ⟨bo, 2, none⟩) (by show w.heap.size ≤ bo; omega) _⟩
            rw [heap_setCell_same _ _ _ _ _ _ HBO.out, show ((128 + rr % 64 : Nat) : Int) = 128 + (x : Int) by have := HX.out; omega]
            rfl
          case measure => simp [RowKit.intOf]
        · have c0 : wr.cell? ⟨bo, 1, none⟩ = some (.int .u8 0) := by rw [Lib.cell_of_heap hbo]; rfl
          have f0 : wr.frozen? ⟨bo, 1, none⟩ = false := Lib.frozen_of_heap hbo 1
          have HBO := Lib.hid hbo
          obtain ⟨rr, hrr⟩ : ∃ x : Nat, r / 64 = x := ⟨_, rfl⟩
          have hh1 := HS2.out
          have hrb : rr ≤ 1023 := by omega
          rw [hrr]
          obtain ⟨x, hx⟩ : ∃ x : Nat, rr % 64 = x := ⟨_, rfl⟩
          have hx64 : x < 64 := by omega
          have hand : bits BinOp.and IntKind.i32 (rr : Int) 63 = (x : Int) := by
            have := bits_mask .i32 31 (by decide) wraps_i32 6 (by omega) (rr : Int) (by omega) (by omega)
            have e : ((2 : Int) ^ 6 - 1) = 63 := rfl
            rw [e] at this
            rw [this, ← hx]
            rfl
          have hmod : (x : Int) % 256 = (x : Int) := by omega
          have hor : bits BinOp.or IntKind.u8 128 (x : Int) = ((128 + x : Nat) : Int) := by
            rw [bits_join .u8 8 (by decide) wraps_u8 6 128 (x : Int) (by omega) (by decide) (by decide) (by omega) (by omega) (by omega)]
            rfl
          have HX := Lib.hid hx
          have HRR := Lib.hid hrr
          clear hbo hrr hx hh1 hmod
          go_wp2
          go_roundw
          case rel =>
            refine ⟨.inr (.inr (⟨rfl, by congr 1; have := HRR.out; omega, ?_⟩)), (Below.heap_setCell _ _ _ _ (by show bk ≠ bo; omega)).trans HBK.out, HBL.out.setCell (p := ⟨bo, 1, none⟩) (by show w.heap.size ≤ bo; omega) _⟩
            rw [heap_setCell_same _ _ _ _ _ _ HBO.out, show ((128 + rr % 64 : Nat) : Int) = 128 + (x : Int) by have := HX.out; omega]
            rfl
          case measure => simp [RowKit.intOf]
        · have c0 : wr.cell? ⟨bo, 0, none⟩ = some (.int .u8 0) := by rw [Lib.cell_of_heap hbo]; rfl
          have f0 : wr.frozen? ⟨bo, 0, none⟩ = false := Lib.frozen_of_heap hbo 0
          have HBO := Lib.hid hbo
          obtain ⟨rr, hrr⟩ : ∃ x : Nat, r / 4096 = x := ⟨_, rfl⟩
          have hh1 := HS2.out
          have hrb : rr ≤ 15 := by omega
          rw [hrr]
          have ck0 : wr.cell? ⟨bk, 0, none⟩ = some (.int .u8 224) := by rw [Lib.cell_of_heap HBK.out]; rfl
          have ck2 : wr.cell? ⟨bk, 2, none⟩ = some (.int .u8 15) := by rw [Lib.cell_of_heap HBK.out]; rfl
          have han : bits BinOp.andNot IntKind.u8 224 15 = 224 := by decide +kernel
          have hmod : (rr : Int) % 256 = (rr : Int) := by omega
          have hor : bits BinOp.or IntKind.u8 224 (rr : Int) = ((224 + rr : Nat) : Int) := by
            rw [bits_join .u8 8 (by decide) wraps_u8 4 224 (rr : Int) (by omega) (by decide) (by decide) (by omega) (by omega) (by omega)]
            omega
          have hh0 := HS1.out
          have hel : encL r = [u8N (224 + r / 4096), u8N (128 + r / 64 % 64), u8N (128 + r % 64)] := by unfold encL; rw [if_neg (by omega), if_neg (by omega), if_pos (by omega)]
          have hconv : (convert 63 9 (.slice (some ⟨bo, 0, none⟩) 3 3)).run Tryz.prog (wr.setCell ⟨bo, 0, none⟩ (.int .u8 (224 + (rr : Int)))) = .ok (.string (bsOf (encL r))) (wr.setCell ⟨bo, 0, none⟩ (.int .u8 (224 + (rr : Int)))) := by
            refine conv_of (heap_setCell_same _ _ _ _ _ _ HBO.out) ?_ 3 3 (by rw [hel]; rfl)
            rw [hel]
            show [Value.int .u8 (224 + (rr : Int)), .int .u8 ((128 + r / 64 % 64 : Nat) : Int), .int .u8 ((128 + r / 1 % 64 : Nat) : Int)] = [Value.int .u8 ((u8N (224 + r / 4096)).toNat : Int), Value.int .u8 ((u8N (128 + r / 64 % 64)).toNat : Int), Value.int .u8 ((u8N (128 + r % 64)).toNat : Int)]
            simp only [List.cons.injEq, Value.int.injEq, true_and, and_true]
            rw [u8N_toNat (by omega), u8N_toNat (by omega), u8N_toNat (by omega)]
            omega
          clear hbo hrr hh1 hh0 hel
          go_wp2
          go_ret2
          exact ⟨rfl, HBL.out.setCell (p := ⟨bo, 0, none⟩) (by show w.heap.size ≤ bo; omega) _⟩

set_option maxRecDepth 100000 in
set_option maxHeartbeats 2000000 in
theorem encode_4 (r : Nat) (h1 : 65536 ≤ r) (h2 : r ≤ 1114111) (hsu : ¬ (55296 ≤ r ∧ r ≤ 57343)) (w : World) : Calls Tryz.prog 60 #[.int .i32 (r : Int)] w fun e w' => e = .returned (.tuple #[strV (encL r), .int .i64 0]) ∧ Below w.heap.size w w' := by
  have C := Lib.hid classes_any
  have x0 : ∀ w, (Instr.index 128 (.agg clsA) (.int .i64 0)).run Tryz.prog w = .ok (.agg #[.int .u8 0, .int .u8 127, .int .u8 127, .int .i32 0, .int .i32 127]) w := fun _ => by kernel_rfl
  have W0 : Hid (∀ W, Calls Tryz.prog 88 #[.agg #[.int .u8 0, .int .u8 127, .int .u8 127, .int .i32 0, .int .i32 127], .int .i32 (r : Int)] W fun e w' => e = .returned (.bool false) ∧ Below W.heap.size W w') := Lib.hid fun W => by
    have := within_any r 0 127 0 127 127 (by omega) (by omega) W
    rw [decide_eq_false (show ¬ r ≤ 127 by omega), Bool.and_false] at this
    exact this
  have x1 : ∀ w, (Instr.index 128 (.agg clsA) (.int .i64 1)).run Tryz.prog w = .ok (.agg #[.int .u8 194, .int .u8 223, .int .u8 31, .int .i32 128, .int .i32 2047]) w := fun _ => by kernel_rfl
  have W1 : Hid (∀ W, Calls Tryz.prog 88 #[.agg #[.int .u8 194, .int .u8 223, .int .u8 31, .int .i32 128, .int .i32 2047], .int .i32 (r : Int)] W fun e w' => e = .returned (.bool false) ∧ Below W.heap.size W w') := Lib.hid fun W => by
    have := within_any r 128 2047 194 223 31 (by omega) (by omega) W
    rw [decide_eq_false (show ¬ r ≤ 2047 by omega), Bool.and_false] at this
    exact this
  have x2 : ∀ w, (Instr.index 128 (.agg clsA) (.int .i64 2)).run Tryz.prog w = .ok (.agg #[.int .u8 224, .int .u8 239, .int .u8 15, .int .i32 2048, .int .i32 65535]) w := fun _ => by kernel_rfl
  have W2 : Hid (∀ W, Calls Tryz.prog 88 #[.agg #[.int .u8 224, .int .u8 239, .int .u8 15, .int .i32 2048, .int .i32 65535], .int .i32 (r : Int)] W fun e w' => e = .returned (.bool false) ∧ Below W.heap.size W w') := Lib.hid fun W => by
    have := within_any r 2048 65535 224 239 15 (by omega) (by omega) W
    rw [decide_eq_false (show ¬ r ≤ 65535 by omega), Bool.and_false] at this
    exact this
  have x3 : ∀ w, (Instr.index 128 (.agg clsA) (.int .i64 3)).run Tryz.prog w = .ok (.agg #[.int .u8 240, .int .u8 244, .int .u8 7, .int .i32 65536, .int .i32 1114111]) w := fun _ => by kernel_rfl
  have W3 : Hid (∀ W, Calls Tryz.prog 88 #[.agg #[.int .u8 240, .int .u8 244, .int .u8 7, .int .i32 65536, .int .i32 1114111], .int .i32 (r : Int)] W fun e w' => e = .returned (.bool true) ∧ Below W.heap.size W w') := Lib.hid fun W => by
    have := within_any r 65536 1114111 240 244 7 (by omega) (by omega) W
    rw [decide_eq_true (show 65536 ≤ r by omega), decide_eq_true (show r ≤ 1114111 by omega)] at this
    exact this
  have HS1 := Lib.hid h1
  have HS2 := Lib.hid h2
  clear h1 h2
  go_enter Tryz.func60, Tryz.ntmps60
  go_wp2_with fail
  refine (C.out _).mono ?_
  rintro e w1 ⟨rfl, hb1⟩
  have HB := Lib.hid hb1
  clear hb1
  go_wp2
  go_loopw [0, 9] (fun v0 v wr => ∃ k : Nat, k ≤ 3 ∧ v0 = .int .i32 (r : Int) ∧ v = .int .i64 k ∧ Below w.heap.size w wr) (fun _ v _ => 4 - (RowKit.intOf v).toNat)
  case atStart => exact ⟨0, by omega, rfl, rfl, HB.out⟩
  case round =>
    obtain ⟨k, hk, rfl, rfl, hbk⟩ := hrel
    obtain ⟨wq, rfl⟩ : ∃ x, x = wr := ⟨_, rfl⟩
    have HK := Lib.hid hbk
    clear hbk
    rcases (by omega : k = 0 ∨ k = 1 ∨ k = 2 ∨ k = 3) with rfl | rfl | rfl | rfl
    · have HA := Lib.hid (HK.out.alloc HK.out.size (Obj.cells #[.int .u8 0, .int .u8 127, .int .u8 127, .int .i32 0, .int .i32 127] 127))
      go_wp2_with fail
      refine (W0.out _).mono ?_
      rintro e w2 ⟨rfl, hb2⟩
      have HB2 := Lib.hid (HA.out.trans (hb2.mono HA.out.size))
      clear hb2
      go_wp2
      go_roundw
      case rel => exact ⟨1, by omega, rfl, rfl, HB2.out⟩
      case measure => simp [RowKit.intOf]
    · have HA := Lib.hid (HK.out.alloc HK.out.size (Obj.cells #[.int .u8 194, .int .u8 223, .int .u8 31, .int .i32 128, .int .i32 2047] 127))
      go_wp2_with fail
      refine (W1.out _).mono ?_
      rintro e w2 ⟨rfl, hb2⟩
      have HB2 := Lib.hid (HA.out.trans (hb2.mono HA.out.size))
      clear hb2
      go_wp2
      go_roundw
      case rel => exact ⟨2, by omega, rfl, rfl, HB2.out⟩
      case measure => simp [RowKit.intOf]
    · have HA := Lib.hid (HK.out.alloc HK.out.size (Obj.cells #[.int .u8 224, .int .u8 239, .int .u8 15, .int .i32 2048, .int .i32 65535] 127))
      go_wp2_with fail
      refine (W2.out _).mono ?_
      rintro e w2 ⟨rfl, hb2⟩
      have HB2 := Lib.hid (HA.out.trans (hb2.mono HA.out.size))
      clear hb2
      go_wp2
      go_roundw
      case rel => exact ⟨3, by omega, rfl, rfl, HB2.out⟩
      case measure => simp [RowKit.intOf]
    · have HA := Lib.hid (HK.out.alloc HK.out.size (Obj.cells #[.int .u8 240, .int .u8 244, .int .u8 7, .int .i32 65536, .int .i32 1114111] 127))
      go_wp2_with fail
      refine (W3.out _).mono ?_
      rintro e w2 ⟨rfl, hb2⟩
      have HB2 := Lib.hid (HA.out.trans (hb2.mono HA.out.size))
      have HC : Hid (w2.heap[wq.heap.size]? = some (.cells #[.int .u8 240, .int .u8 244, .int .u8 7, .int .i32 65536, .int .i32 1114111] 127 (0, 0))) := Lib.hid ((hb2.block _ (by simp)).trans (heap_alloc_new wq _))
      clear hb2
      have hms : (Instr.makeSlice 63 (.int .i64 4) (.int .i64 4)).run Tryz.prog w2 = .ok (.slice (some ⟨w2.heap.size, 0, none⟩) 4 4) (w2.alloc (.cells #[.int .u8 0, .int .u8 0, .int .u8 0, .int .u8 0] 5)) := by
        obtain ⟨i0, hi, hz0, hz1, hz2⟩ := info_parts Tryz.u8_info
        have := run_makeSlice (P := Tryz.prog) (w := w2) 63 5 i0 _ Tryz.underlying63 hi hz0 .i64 .i64 4 4 (by omega) (by omega) (by rw [hz1]; decide) (by rw [hz2]; decide) (by omega)
        rw [hz1, show madeCells (Value.int .u8 0).cells (Int.toNat 4 * 1) = #[.int .u8 0, .int .u8 0, .int .u8 0, .int .u8 0] from by kernel_rfl] at this
        exact this
      have HC2 : Hid ((w2.alloc (.cells #[.int .u8 0, .int .u8 0, .int .u8 0, .int .u8 0] 5)).heap[wq.heap.size]? = some (.cells #[.int .u8 240, .int .u8 244, .int .u8 7, .int .i32 65536, .int .i32 1114111] 127 (0, 0))) := Lib.hid ((Below.heap_alloc _ _ _ (lt_of_block HC.out)).trans HC.out)
      have HO2 : Hid ((w2.alloc (.cells #[.int .u8 0, .int .u8 0, .int .u8 0, .int .u8 0] 5)).heap[w2.heap.size]? = some (.cells #[.int .u8 0, .int .u8 0, .int .u8 0, .int .u8 0] 5 (0, 0))) := Lib.hid (heap_alloc_new w2 _)
      have HB3 := Lib.hid (HB2.out.alloc HB2.out.size (.cells #[.int .u8 0, .int .u8 0, .int .u8 0, .int .u8 0] 5))
      have hlt2 : wq.heap.size < w2.heap.size := lt_of_block HC.out
      have hge2 : w.heap.size ≤ wq.heap.size := HK.out.size
      clear HC
      go_wp2
      clear hms
      generalize w2.heap.size = bo at *
      generalize wq.heap.size = bk at *

      go_loopw [0, 7] (fun v0 v7 wr => ((v7 = .int .i64 3 ∧ v0 = .int .i32 ((r / 1 : Nat) : Int) ∧ wr.heap[bo]? = some (.cells #[.int .u8 0, .int .u8 0, .int .u8 0, .int .u8 0] 5 (0, 0))) ∨ (v7 = .int .i64 2 ∧ v0 = .int .i32 ((r / 64 : Nat) : Int) ∧ wr.heap[bo]? = some (.cells #[.int .u8 0, .int .u8 0, .int .u8 0, .int .u8 ((128 + r / 1 % 64 : Nat) : Int)] 5 (0, 0))) ∨ (v7 = .int .i64 1 ∧ v0 = .int .i32 ((r / 4096 : Nat) : Int) ∧ wr.heap[bo]? = some (.cells #[.int .u8 0, .int .u8 0, .int .u8 ((128 + r / 64 % 64 : Nat) : Int), .int .u8 ((128 + r / 1 % 64 : Nat) : Int)] 5 (0, 0))) ∨ (v7 = .int .i64 0 ∧ v0 = .int .i32 ((r / 262144 : Nat) : Int) ∧ wr.heap[bo]? = some (.cells #[.int .u8 0, .int .u8 ((128 + r / 4096 % 64 : Nat) : Int), .int .u8 ((128 + r / 64 % 64 : Nat) : Int), .int .u8 ((128 + r / 1 % 64 : Nat) : Int)] 5 (0, 0)))) ∧ wr.heap[bk]? = some (.cells #[.int .u8 240, .int .u8 244, .int .u8 7, .int .i32 65536, .int .i32 1114111] 127 (0, 0)) ∧ Below w.heap.size w wr) (fun _ v _ => (RowKit.intOf v).toNat)
      case atStart => exact ⟨.inl ⟨rfl, by rw [Nat.div_one], HO2.out⟩, HC2.out, HB3.out⟩
      case round =>
        obtain ⟨hcs, hbk, hbl⟩ := hrel
        have HBK := Lib.hid hbk
        have HBL := Lib.hid hbl
        clear hbk hbl
        rcases hcs with ⟨rfl, rfl, hbo⟩ | ⟨rfl, rfl, hbo⟩ | ⟨rfl, rfl, hbo⟩ | ⟨rfl, rfl, hbo⟩
        · have c0 : wr.cell? ⟨bo, 3, none⟩ = some (.int .u8 0) := by rw [Lib.cell_of_heap hbo]; rfl
          have f0 : wr.frozen? ⟨bo, 3, none⟩ = false := Lib.frozen_of_heap hbo 3
          have HBO := Lib.hid hbo
          obtain ⟨rr, hrr⟩ : ∃ x : Nat, r / 1 = x := ⟨_, rfl⟩
          have hh1 := HS2.out
          have hrb : rr ≤ 1114111 := by omega
          rw [hrr]
          obtain ⟨x, hx⟩ : ∃ x : Nat, rr % 64 = x := ⟨_, rfl⟩
          have hx64 : x < 64 := by omega
          have hand : bits BinOp.and IntKind.i32 (rr : Int) 63 = (x : Int) := by
            have := bits_mask .i32 31 (by decide) wraps_i32 6 (by omega) (rr : Int) (by omega) (by omega)
            have e : ((2 : Int) ^ 6 - 1) = 63 := rfl
            rw [e] at this
            rw [this, ← hx]
            rfl
          have hmod : (x : Int) % 256 = (x : Int) := by omega
          have hor : bits BinOp.or IntKind.u8 128 (x : Int) = ((128 + x : Nat) : Int) := by
            rw [bits_join .u8 8 (by decide) wraps_u8 6 128 (x : Int) (by omega) (by decide) (by decide) (by omega) (by omega) (by omega)]
            rfl
          have HX := Lib.hid hx
          have HRR := Lib.hid hrr
          clear hbo hrr hx hh1 hmod
          go_wp2
          go_roundw
          case rel =>
            refine ⟨.inr (.inl ⟨rfl, by congr 1; have := HRR.out; omega, ?_⟩), (Below.heap_setCell _ _ _ _ (by show bk ≠ bo; omega)).trans HBK.out, HBL.out.setCell (p := ⟨bo, 3, none⟩) (by show w.heap.size ≤ bo; omega) _⟩
            rw [heap_setCell_same _ _ _ _ _ _ HBO.out, show ((128 + rr % 64 : Nat) : Int) = 128 + (x : Int) by have := HX.out; omega]
            rfl
          case measure => simp [RowKit.intOf]
        · have c0 : wr.cell? ⟨bo, 2, none⟩ = some (.int .u8 0) := by rw [Lib.cell_of_heap hbo]; rfl
          have f0 : wr.frozen? ⟨bo, 2, none⟩ = false := Lib.frozen_of_heap hbo 2
          have HBO := Lib.hid hbo
          obtain ⟨rr, hrr⟩ : ∃ x : Nat, r / 64 = x := ⟨_, rfl⟩
          have hh1 := HS2.out
          have hrb : rr ≤ 17407 := by omega
          rw [hrr]
          obtain ⟨x, hx⟩ : ∃ x : Nat, rr % 64 = x := ⟨_, rfl⟩
          have hx64 : x < 64 := by omega
          have hand : bits BinOp.and IntKind.i32 (rr : Int) 63 = (x : Int) := by
            have := bits_mask .i32 31 (by decide) wraps_i32 6 (by omega) (rr : Int) (by omega) (by omega)
            have e : ((2 : Int) ^ 6 - 1) = 63 := rfl
            rw [e] at this
            rw [this, ← hx]
            rfl
          have hmod : (x : Int) % 256 = (x : Int) := by omega
          have hor : bits BinOp.or IntKind.u8 128 (x : Int) = ((128 + x : Nat) : Int) := by
            rw [bits_join .u8 8 (by decide) wraps_u8 6 128 (x : Int) (by omega) (by decide) (by decide) (by omega) (by omega) (by omega)]
            rfl
          have HX := Lib.hid hx
          have HRR := Lib.hid hrr
          clear hbo hrr hx hh1 hmod
          go_wp2
          go_roundw
          case rel =>
            refine ⟨.inr (.inr (.inl ⟨rfl, by congr 1; have := HRR.out; omega, ?_⟩)), (Below.heap_setCell _ _ _ _ (by show bk ≠ bo; omega)).trans HBK.out, HBL.out.setCell (p := ⟨bo, 2, none⟩) (by show w.heap.size ≤ bo; omega) _⟩
            rw [heap_setCell_same _ _ _ _ _ _ HBO.out, show ((128 + rr % 64 : Nat) : Int) = 128 + (x : Int) by have := HX.out; omega]
            rfl
          case measure => simp [RowKit.intOf]
        · have c0 : wr.cell? ⟨bo, 1, none⟩ = some (.int .u8 0) := by rw [Lib.cell_of_heap hbo]; rfl
          have f0 : wr.frozen? ⟨bo, 1, none⟩ = false := Lib.frozen_of_heap hbo 1
          have HBO := Lib.hid hbo
          obtain ⟨rr, hrr⟩ : ∃ x : Nat, r / 4096 = x := ⟨_, rfl⟩
          have hh1 := HS2.out
          have hrb : rr ≤ 271 := by omega
          rw [hrr]
          obtain ⟨x, hx⟩ : ∃ x : Nat, rr % 64 = x := ⟨_, rfl⟩
          have hx64 : x < 64 := by omega
          have hand : bits BinOp.and IntKind.i32 (rr : Int) 63 = (x : Int) := by
            have := bits_mask .i32 31 (by decide) wraps_i32 6 (by omega) (rr : Int) (by omega) (by omega)
            have e : ((2 : Int) ^ 6 - 1) = 63 := rfl
            rw [e] at this
            rw [this, ← hx]
            rfl
          have hmod : (x : Int) % 256 = (x : Int) := by omega
          have hor : bits BinOp.or IntKind.u8 128 (x : Int) = ((128 + x : Nat) : Int) := by
            rw [bits_join .u8 8 (by decide) wraps_u8 6 128 (x : Int) (by omega) (by decide) (by decide) (by omega) (by omega) (by omega)]
            rfl
          have HX := Lib.hid hx
          have HRR := Lib.hid hrr
          clear hbo hrr hx hh1 hmod
          go_wp2
          go_roundw
          case rel =>
            refine ⟨.inr (.inr (.inr (⟨rfl, by congr 1; have := HRR.out; omega, ?_⟩))), (Below.heap_setCell _ _ _ _ (by show bk ≠ bo; omega)).trans HBK.out, HBL.out.setCell (p := ⟨bo, 1, none⟩) (by show w.heap.size ≤ bo; omega) _⟩
            rw [heap_setCell_same _ _ _ _ _ _ HBO.out, show ((128 + rr % 64 : Nat) : Int) = 128 + (x : Int) by have := HX.out; omega]
            rfl
          case measure => simp [RowKit.intOf]
        · have c0 : wr.cell? ⟨bo, 0, none⟩ = some (.int .u8 0) := by rw [Lib.cell_of_heap hbo]; rfl
          have f0 : wr.frozen? ⟨bo, 0, none⟩ = false := Lib.frozen_of_heap hbo 0
          have HBO := Lib.hid hbo
          obtain ⟨rr, hrr⟩ : ∃ x : Nat, r / 262144 = x := ⟨_, rfl⟩
          have hh1 := HS2.out
          have hrb : rr ≤ 4 := by omega
          rw [hrr]
          have ck0 : wr.cell? ⟨bk, 0, none⟩ = some (.int .u8 240) := by rw [Lib.cell_of_heap HBK.out]; rfl
          have ck2 : wr.cell? ⟨bk, 2, none⟩ = some (.int .u8 7) := by rw [Lib.cell_of_heap HBK.out]; rfl
          have han : bits BinOp.andNot IntKind.u8 240 7 = 240 := by decide +kernel
          have hmod : (rr : Int) % 256 = (rr : Int) := by omega
          have hor : bits BinOp.or IntKind.u8 240 (rr : Int) = ((240 + rr : Nat) : Int) := by
            rw [bits_join .u8 8 (by decide) wraps_u8 3 240 (rr : Int) (by omega) (by decide) (by decide) (by omega) (by omega) (by omega)]
            omega
          have hh0 := HS1.out
          have hel : encL r = [u8N (240 + r / 262144), u8N (128 + r / 4096 % 64), u8N (128 + r / 64 % 64), u8N (128 + r % 64)] := by unfold encL; rw [if_neg (by omega), if_neg (by omega), if_neg (by omega)]
          have hconv : (convert 63 9 (.slice (some ⟨bo, 0, none⟩) 4 4)).run Tryz.prog (wr.setCell ⟨bo, 0, none⟩ (.int .u8 (240 + (rr : Int)))) = .ok (.string (bsOf (encL r))) (wr.setCell ⟨bo, 0, none⟩ (.int .u8 (240 + (rr : Int)))) := by
            refine conv_of (heap_setCell_same _ _ _ _ _ _ HBO.out) ?_ 4 4 (by rw [hel]; rfl)
            rw [hel]
            show [Value.int .u8 (240 + (rr : Int)), .int .u8 ((128 + r / 4096 % 64 : Nat) : Int), .int .u8 ((128 + r / 64 % 64 : Nat) : Int), .int .u8 ((128 + r / 1 % 64 : Nat) : Int)] = [Value.int .u8 ((u8N (240 + r / 262144)).toNat : Int), Value.int .u8 ((u8N (128 + r / 4096 % 64)).toNat : Int), Value.int .u8 ((u8N (128 + r / 64 % 64)).toNat : Int), Value.int .u8 ((u8N (128 + r % 64)).toNat : Int)]
            simp only [List.cons.injEq, Value.int.injEq, true_and, and_true]
            rw [u8N_toNat (by omega), u8N_toNat (by omega), u8N_toNat (by omega), u8N_toNat (by omega)]
            omega
          clear hbo hrr hh1 hh0 hel
          go_wp2
          go_ret2
          exact ⟨rfl, HBL.out.setCell (p := ⟨bo, 0, none⟩) (by show w.heap.size ≤ bo; omega) _⟩
end Go.Proofs.YteecmcphbehfgaaGreatDoor
