/- The folded text of a field by the program over this translation.
   Conditions: texts of at most 1000000 bytes. -/
import Derived.Test.YteecmcphbehfgaaGreatDoorF9
namespace Go.Proofs.YteecmcphbehfgaaGreatDoor
open Go.RowKit Go.Lib

/-- The text that Fold hands back. -/
def foldR (name body : List UInt8) : List UInt8 := if checkI name body = 0 then foldL name body else []

/-- What holds at the head of a round of the program's fold. -/
def PFRel (ws : List (List UInt8)) (init : List UInt8) (w : World) (B b n : Nat) (v6 v7 v22 row : Value) (wr : World) : Prop :=
  ∃ (k : Nat) (out line : List UInt8) (first : Bool) (g : Option Nat), v22 = .int .i64 k ∧ v6 = .string (bsOf line) ∧ v7 = .bool first ∧ FoldAt ws init k out line first ∧ LB B b out g wr ∧
    wr.ownsRow n 9 1 row ws.length (ws.map strV) ∧ Below w.heap.size w wr

set_option maxRecDepth 10000 in
set_option maxHeartbeats 2000000 in
theorem fold_any (name body : ByteArray) (w : World) (hn : name.size ≤ 1000000) (hb : body.size ≤ 1000000) :
    Calls Tryz.prog 71 #[.agg #[.string name, .string body]] w fun e w' => e = .returned (.tuple #[strV (foldR name.data.toList body.data.toList), .int .i64 (checkI name.data.toList body.data.toList)]) ∧ Below w.heap.size w w' := by
  have hF := FoldAt.start (name := name.data.toList) (body := body.data.toList) (by simpa using hn) (by simpa using hb)
  have CC := check_any name body (w.alloc (.cells #[.string name, .string body] 70)) hn hb
  have CW := fun w => words_any body w hb
  unfold WordsPost at CW
  have hnb : name = bsOf name.data.toList := (bsOf_eta name).symm
  have hwn : (wordsL body.data.toList).length ≤ 2000000 := by have := words_len body.data.toList; simp at this; omega
  have hdone : ∀ out line first, FoldAt (wordsL body.data.toList) (name.data.toList ++ [58]) (wordsL body.data.toList).length out line first → foldL name.data.toList body.data.toList = out ++ (line ++ [10]) := fun _ _ _ h => h.done
  obtain ⟨ws, hws⟩ : ∃ ws, wordsL body.data.toList = ws := ⟨_, rfl⟩
  rw [hws] at CW hF hdone hwn
  clear hws
  have hinit : name ++ ⟨#[58]⟩ = bsOf (name.data.toList ++ [58]) := by
    conv => lhs; rw [hnb]
    exact bsOf_append _ _
  have HI := Lib.hid hinit
  clear hnb hinit
  unfold foldR
  generalize foldL name.data.toList body.data.toList = res at hdone ⊢
  generalize checkI name.data.toList body.data.toList = code at CC ⊢
  have CC := Lib.hid CC
  have CW := Lib.hid CW
  have HF := Lib.hid hF
  have HD := Lib.hid hdone
  clear hF hdone
  have HBA := Lib.hid (fun o => (Below.refl w.heap.size w).alloc (Nat.le_refl _) o)
  unfold strV
  by_cases hc : code = 0
  · subst hc
    rw [if_pos rfl]
    go_enter Tryz.func71, Tryz.ntmps71
    go_wp2_with fail
    refine CC.out.mono ?_
    rintro e w1 ⟨rfl, hbl⟩
    have c0 : w1.cell? ⟨w.heap.size, 0, none⟩ = some (.string name) := ((bcell hbl).1 _ _ (by simp)).trans cell2.1
    have c1 : w1.cell? ⟨w.heap.size, 1, none⟩ = some (.string body) := ((bcell hbl).1 _ _ (by simp)).trans cell2.2
    have hlt : w.heap.size < w1.heap.size := by have := hbl.size; simp at this; omega
    have HB1 := Lib.hid ((HBA.out (.cells #[.string name, .string body] 70)).trans (hbl.mono (by simp)))
    have HL0 := Lib.hid (LB.new w1 w.heap.size (Nat.le_of_lt hlt))
    clear hbl CC
    go_wp2_with fail
    refine (CW.out _).mono ?_
    rintro e w2 ⟨v, rfl, hown, hbl⟩
    have HL1 := Lib.hid (HL0.out.kept (kept_of_below hbl) (fun f => f) (fun _ _ f => f))
    have HO := Lib.hid hown
    have HB2 := Lib.hid ((HB1.out.alloc (Nat.le_of_lt hlt) (.cells #[.pointer none, .slice none 0 0] 85)).trans (hbl.mono (by simp; omega)))
    obtain ⟨A, cap, rfl⟩ := own_shape hown
    have hsz1 : (w1.alloc (.cells #[.pointer none, .slice none 0 0] 85)).heap.size = w1.heap.size + 1 := by simp
    clear hown hbl CW HL0
    rw [hsz1] at HO
    clear hsz1
    go_wp2_with fail
    go_loopw [6, 7, 9, 22] (fun a c _ d wr => PFRel ws (name.data.toList ++ [58]) w w.heap.size w1.heap.size (w1.heap.size + 1) a c d (.slice A ws.length cap) wr) (fun _ _ _ v _ => ws.length - (RowKit.intOf v).toNat)
    case atStart => exact ⟨0, [], _, true, none, rfl, by rw [HI.out], rfl, HF.out, HL1.out, HO.out, HB2.out⟩
    case round =>
      obtain ⟨k, out, line, first, g, rfl, rfl, rfl, hA, hLB, hO, hBL⟩ := hrel
      have hkl := hA.le
      have hsz := hA.size
      have HA := Lib.hid hA
      have HLB := Lib.hid hLB
      have HO2 := Lib.hid hO
      have HBL := Lib.hid hBL
      have hws : w.heap.size ≤ wr.heap.size := hBL.size
      clear hA hLB hO hBL
      have z2 : (bsOf line).size ≤ 4000000 := by rw [bsOf_size]; omega
      by_cases hlt2 : k < ws.length
      · obtain ⟨g0, cap', he, hB, hg, hc, hcell⟩ := own_cell HO2.out (by omega)
        injection he with he1 _ he2
        subst he1; subst he2
        have ck := hcell k (.string (bsOf ws[k])) (by rw [List.getElem?_map, List.getElem?_eq_getElem hlt2]; rfl)
        have z3 : (bsOf ws[k]).size ≤ 4000000 := by
          rw [bsOf_size]
          have := lens_drop hlt2
          omega
        have hs2 := Lib.hid (bsOf_size line)
        have hs3 := Lib.hid (bsOf_size ws[k])
        clear hcell
        by_cases ht : first = false ∧ 78 < line.length + 1 + ws[k].length
        · obtain ⟨rfl, ht⟩ := ht
          have HN := Lib.hid (HA.out.wrap hlt2 ht)
          have htd : decide (78 < (bsOf line).size + 1 + (bsOf ws[k]).size) = true := decide_eq_true (by rw [hs2.out, hs3.out]; omega)
          have htd' : decide ((78 : Int) < ((bsOf line).size : Int) + 1 + (bsOf ws[k]).size) = true := decide_eq_true (by rw [hs2.out, hs3.out]; omega)
          clear ht
          have CWr := Lib.hid (lb_Write HLB.out (bsOf line ++ ⟨#[10]⟩) (by rw [ByteArray.size_append, hs2.out]; show out.length + (line.length + 1) ≤ _; omega))
          go_wp2_with fail
          refine CWr.out.mono ?_
          rintro e w3 ⟨rfl, g3, hL3, hk3⟩
          have HL3 := Lib.hid hL3
          have HO3 := Lib.hid (own_kept HO2.out hk3 (HLB.out.row HO2.out (by decide) (by decide)))
          have HB3 := Lib.hid (HBL.out.trans (hk3.toBelow (by
            rintro j (f | f)
            · omega
            · exact (HLB.out.glt j f).1) hws))
          clear hL3 hk3
          go_wp2
          go_roundw
          case rel =>
            refine ⟨k + 1, _, _, false, g3, by go_num, ?_, rfl, HN.out, ?_, HO3.out, HB3.out⟩
            · rw [← bsOf_append]; rfl
            · have := HL3.out
              rw [ByteArray.data_append, Array.toList_append, bsOf_data] at this
              exact this
          case measure => simp [RowKit.intOf]; omega
        · have HN := Lib.hid (HA.out.line hlt2 ht)
          have hrelEnd : Hid (PFRel ws (name.data.toList ++ [58]) w w.heap.size w1.heap.size (w1.heap.size + 1) (.string (bsOf (line ++ [32] ++ ws[k]))) (.bool false) (.int .i64 (k + 1 : Nat)) (.slice (some ⟨g0, 0, none⟩) ws.length cap) wr) :=
            Lib.hid ⟨k + 1, out, _, false, g, rfl, rfl, rfl, HN.out, HLB.out, HO2.out, HBL.out⟩
          cases first
          · have ht' : ¬ 78 < line.length + 1 + ws[k].length := fun h => ht ⟨rfl, h⟩
            have htd : decide (78 < (bsOf line).size + 1 + (bsOf ws[k]).size) = false := decide_eq_false (by rw [hs2.out, hs3.out]; omega)
            have htd' : decide ((78 : Int) < ((bsOf line).size : Int) + 1 + (bsOf ws[k]).size) = false := decide_eq_false (by rw [hs2.out, hs3.out]; omega)
            clear ht ht'
            go_wp2
            go_roundw
            case rel =>
              have := hrelEnd.out
              rw [← bsOf_append, ← bsOf_append] at this
              exact this
            case measure => simp [RowKit.intOf]; omega
          · clear ht
            go_wp2
            go_roundw
            case rel =>
              have := hrelEnd.out
              rw [← bsOf_append, ← bsOf_append] at this
              exact this
            case measure => simp [RowKit.intOf]; omega
      · obtain rfl : k = ws.length := by omega
        have HR := Lib.hid (HD.out _ _ _ HA.out)
        have CWr := Lib.hid (lb_Write HLB.out (bsOf line ++ ⟨#[10]⟩) (by rw [ByteArray.size_append, bsOf_size]; show out.length + (line.length + 1) ≤ _; omega))
        go_wp2_with fail
        refine CWr.out.mono ?_
        rintro e w3 ⟨rfl, g3, hL3, hk3⟩
        have HL3 := Lib.hid hL3
        have HB3 := Lib.hid (HBL.out.trans (hk3.toBelow (by
            rintro j (f | f)
            · omega
            · exact (HLB.out.glt j f).1) hws))
        clear hL3 hk3
        have hw3 := HB3.out.size
        go_wp2_with fail
        refine (lb_String HL3.out).mono ?_
        rintro e w4 ⟨rfl, _, hk4⟩
        have HB4 := Lib.hid (HB3.out.trans (hk4.toBelow (fun j f => (HL3.out.glt j f).1) hw3))
        clear hk4
        unfold strV
        go_wp2
        go_ret2
        refine ⟨?_, HB4.out⟩
        rw [HR.out, bsOf_data]
        rfl
  · rw [if_neg hc]
    have hcb : (code != 0) = true := by rw [bne, beq_eq_false_iff_ne.2 hc]; rfl
    have HC := Lib.hid hc
    clear hc
    go_enter Tryz.func71, Tryz.ntmps71
    go_wp2_with fail
    refine CC.out.mono ?_
    rintro e w1 ⟨rfl, hbl⟩
    have HB1 := Lib.hid ((HBA.out (.cells #[.string name, .string body] 70)).trans (hbl.mono (by simp)))
    clear hbl
    go_wp2
    go_ret2
    exact ⟨rfl, HB1.out⟩
end Go.Proofs.YteecmcphbehfgaaGreatDoor
