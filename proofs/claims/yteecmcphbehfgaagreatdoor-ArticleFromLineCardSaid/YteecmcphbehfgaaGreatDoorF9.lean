/- The folded text of a field, by the program and by the document, over this translation.
   Conditions: texts of at most 1000000 bytes. -/
import Derived.Test.YteecmcphbehfgaaGreatDoorF8
namespace Go.Proofs.YteecmcphbehfgaaGreatDoor
open Go.RowKit Go.Lib

/-! ### a local builder -/
/-- A strings.Builder in block b that holds bs; its buffer's block is g. -/
def LB (B b : Nat) (bs : List UInt8) (g : Option Nat) (w : World) : Prop := ∃ C, Bld 85 B b 0 C g (Lib.byteCells bs) w ∧ C.size = 2
theorem fits_lb : Fits 85 2 0 := ⟨by decide, by kernel_rfl⟩
theorem LB.kept {F : Nat → Prop} {B b : Nat} {bs : List UInt8} {g : Option Nat} {w w' : World} (h : LB B b bs g w) (hk : Kept F w w') (hb : ¬ F b) (hg : ∀ k, g = some k → ¬ F k) : LB B b bs g w' := by
  obtain ⟨C, hB, r⟩ := h
  exact ⟨C, hB.kept hk hb hg, r⟩
theorem LB.lt {B b : Nat} {bs : List UInt8} {g : Option Nat} {w : World} (h : LB B b bs g w) : b < w.heap.size := by obtain ⟨C, hB, _⟩ := h; exact hB.lt
theorem LB.base {B b : Nat} {bs : List UInt8} {g : Option Nat} {w : World} (h : LB B b bs g w) : B ≤ b := by obtain ⟨C, hB, _⟩ := h; exact hB.base
theorem LB.glt {B b : Nat} {bs : List UInt8} {g : Option Nat} {w : World} (h : LB B b bs g w) : ∀ k, g = some k → B ≤ k ∧ k < w.heap.size := by obtain ⟨C, hB, _⟩ := h; exact hB.glt
theorem LB.new (w : World) (B : Nat) (hB : B ≤ w.heap.size) : LB B w.heap.size [] none (w.alloc (.cells #[.pointer none, .slice none 0 0] 85)) :=
  ⟨_, ⟨hB, heap_alloc_new w _, .inl rfl, _, rfl, World.ownsRowF_nil _ _ _ _, rfl⟩, rfl⟩
/-- Neither the builder's block nor its buffer is a row of another type. -/
theorem LB.apart {B b : Nat} {bs : List UInt8} {g : Option Nat} {w : World} {c : Nat} {cs : Array Value} {T : TypeId} {fr : Nat × Nat} (h : LB B b bs g w) (hc : w.heap[c]? = some (.cells cs T fr)) (h1 : T ≠ 85) (h2 : T ≠ 5) : ¬ (c = b ∨ g = some c) := by
  obtain ⟨C, hB, _⟩ := h
  rintro (f | f)
  · subst f
    rw [hB.blk] at hc
    injection hc with hc
    injection hc with _ hc _
    exact h1 hc.symm
  · obtain ⟨v, _, ho, rfl⟩ := hB.buf
    exact Lib.ownBlock_neF ho hc h2 f
theorem LB.row {B b B' sz n : Nat} {bs : List UInt8} {g : Option Nat} {w : World} {E : TypeId} {v : Value} {xs : List Value} (h : LB B b bs g w) (hr : w.ownsRow B' E sz v n xs) (h1 : E ≠ 85) (h2 : E ≠ 5) : ∀ k, v.ownBlock = some k → ¬ (k = b ∨ g = some k) := by
  intro k hk
  rcases hr.2 with ⟨rfl, _⟩ | ⟨r, cap, cur, rfl, _, hg, _⟩
  · cases hk
  · injection hk with hk
    have hk' : r = k := hk
    subst hk'
    exact h.apart hg h1 h2

/-- The builder holds bs behind a call; only its blocks have turned. -/
def LBGrew (B b : Nat) (bs : List UInt8) (g : Option Nat) (w w' : World) : Prop := ∃ g', LB B b bs g' w' ∧ Kept (fun k => k = b ∨ g = some k) w w'
theorem lb_Write {B b : Nat} {bs : List UInt8} {g : Option Nat} {w : World} (h : LB B b bs g w) (t : ByteArray) (hlen : bs.length + t.size ≤ 140737488355328) :
    Calls Tryz.prog 47 #[.pointer (some ⟨b, 0, none⟩), .string t] w fun e w' => e = .returned (.tuple #[.int .i64 t.size, .nilIface]) ∧ LBGrew B b (bs ++ t.data.toList) g w w' := by
  have hBw : B ≤ w.heap.size := Nat.le_of_lt (Nat.lt_of_le_of_lt h.base h.lt)
  obtain ⟨C, hB, hs⟩ := h
  refine (bld_WriteString _ B b 0 C g _ t w (by rw [hs]; exact fits_lb) hB (by rw [Lib.byteCells_length]; exact hlen) hBw).mono ?_
  rintro e w' ⟨rfl, v, g', hB', hk, hg⟩
  have e1 : Lib.byteCells bs ++ Lib.strCells t = Lib.byteCells (bs ++ t.data.toList) := by simp [Lib.byteCells, Lib.strCells]
  rw [e1] at hB'
  exact ⟨rfl, g', ⟨_, hB', by simpa using hs⟩, hk⟩
theorem lb_String {B b : Nat} {bs : List UInt8} {g : Option Nat} {w : World} (h : LB B b bs g w) :
    Calls Tryz.prog 50 #[.pointer (some ⟨b, 0, none⟩)] w fun e w' => e = .returned (strV bs) ∧ LB B b bs g w' ∧ Kept (fun k => g = some k) w w' := by
  obtain ⟨C, hB, r⟩ := h
  exact (bld_String _ B b 0 C g bs w fits_lb.1 hB).mono fun e w' ⟨h1, h2, h3⟩ => ⟨h1, ⟨C, h2, r⟩, h3⟩
theorem lb_Len {B b : Nat} {bs : List UInt8} {g : Option Nat} {w : World} (h : LB B b bs g w) :
    Calls Tryz.prog 49 #[.pointer (some ⟨b, 0, none⟩)] w fun e w' => e = .returned (.int .i64 bs.length) ∧ w = w' := by
  obtain ⟨C, hB, _⟩ := h
  have := bld_Len _ B b 0 C g _ w hB
  rwa [Lib.byteCells_length] at this

/-! ### plain -/
def foldS : List (List UInt8) → List UInt8 → List UInt8 → Bool → List UInt8 × List UInt8
  | [], out, line, _ => (out, line)
  | x :: r, out, line, first => if first = false ∧ 78 < line.length + 1 + x.length then foldS r (out ++ (line ++ [10])) ([32] ++ x) false else foldS r out (line ++ [32] ++ x) false
/-- The lines of a field, each with a line feed. -/
def foldL (name body : List UInt8) : List UInt8 := (foldS (wordsL body) [] (name ++ [58]) true).1 ++ ((foldS (wordsL body) [] (name ++ [58]) true).2 ++ [10])
theorem foldS_wrap {ws : List (List UInt8)} {k : Nat} {out line : List UInt8} (hk : k < ws.length) (h : 78 < line.length + 1 + ws[k].length) : foldS (ws.drop k) out line false = foldS (ws.drop (k + 1)) (out ++ (line ++ [10])) ([32] ++ ws[k]) false := by
  rw [List.drop_eq_getElem_cons hk, foldS, if_pos ⟨rfl, h⟩]
theorem foldS_line {ws : List (List UInt8)} {k : Nat} {out line : List UInt8} {first : Bool} (hk : k < ws.length) (h : ¬ (first = false ∧ 78 < line.length + 1 + ws[k].length)) : foldS (ws.drop k) out line first = foldS (ws.drop (k + 1)) out (line ++ [32] ++ ws[k]) false := by
  rw [List.drop_eq_getElem_cons hk, foldS, if_neg h]
theorem lens_drop {ws : List (List UInt8)} {k : Nat} (hk : k < ws.length) : lensW (ws.drop k) = ws[k].length + lensW (ws.drop (k + 1)) := by
  unfold lensW
  rw [List.drop_eq_getElem_cons hk, List.map_cons, List.sum_cons]

/-- What holds at the head of a round of a fold. -/
structure FoldAt (ws : List (List UInt8)) (init : List UInt8) (k : Nat) (out line : List UInt8) (first : Bool) : Prop where
  le : k ≤ ws.length
  st : foldS (ws.drop k) out line first = foldS ws [] init true
  size : out.length + line.length + lensW (ws.drop k) + 2 * (ws.length - k) ≤ 4000000
theorem FoldAt.wrap {ws : List (List UInt8)} {init : List UInt8} {k : Nat} {out line : List UInt8} (h : FoldAt ws init k out line false) (hk : k < ws.length) (ht : 78 < line.length + 1 + ws[k].length) : FoldAt ws init (k + 1) (out ++ (line ++ [10])) ([32] ++ ws[k]) false :=
  ⟨hk, by rw [← foldS_wrap hk ht, h.st], by have := h.size; rw [lens_drop hk] at this; simp; omega⟩
theorem FoldAt.line {ws : List (List UInt8)} {init : List UInt8} {k : Nat} {out line : List UInt8} {first : Bool} (h : FoldAt ws init k out line first) (hk : k < ws.length) (ht : ¬ (first = false ∧ 78 < line.length + 1 + ws[k].length)) : FoldAt ws init (k + 1) out (line ++ [32] ++ ws[k]) false :=
  ⟨hk, by rw [← foldS_line hk ht, h.st], by have := h.size; rw [lens_drop hk] at this; simp; omega⟩
theorem FoldAt.start {name body : List UInt8} (h1 : name.length ≤ 1000000) (h2 : body.length ≤ 1000000) : FoldAt (wordsL body) (name ++ [58]) 0 [] (name ++ [58]) true :=
  ⟨Nat.zero_le _, rfl, by have := words_both body; simp; omega⟩
theorem FoldAt.done {name body out line : List UInt8} {first : Bool} (h : FoldAt (wordsL body) (name ++ [58]) (wordsL body).length out line first) : foldL name body = out ++ (line ++ [10]) := by
  have := h.st
  rw [List.drop_length] at this
  unfold foldL
  rw [← this]
  rfl

/-! ### the document's fold -/
theorem mk_append (a b : List UInt8) : (⟨a.toArray⟩ : ByteArray) ++ ⟨b.toArray⟩ = ⟨(a ++ b).toArray⟩ := bsOf_append a b

set_option maxRecDepth 10000 in
set_option maxHeartbeats 2000000 in
theorem rfold_any (name body : ByteArray) (w : World) (hn : name.size ≤ 1000000) (hb : body.size ≤ 1000000) :
    Calls Tryz.prog 73 #[.agg #[.string name, .string body]] w fun e w' => e = .returned (strV (foldL name.data.toList body.data.toList)) ∧ Below w.heap.size w w' := by
  have hF := FoldAt.start (name := name.data.toList) (body := body.data.toList) (by simpa using hn) (by simpa using hb)
  have CW := rwords_any body (w.alloc (.cells #[.string name, .string body] 80)) hb
  unfold WordsPost at CW
  have hwn : (wordsL body.data.toList).length ≤ 2000000 := by have := words_len body.data.toList; simp at this; omega
  have hnb : name = bsOf name.data.toList := (bsOf_eta name).symm
  have hdone : ∀ out line first, FoldAt (wordsL body.data.toList) (name.data.toList ++ [58]) (wordsL body.data.toList).length out line first → foldL name.data.toList body.data.toList = out ++ (line ++ [10]) := fun _ _ _ h => h.done
  obtain ⟨ws, hws⟩ : ∃ ws, wordsL body.data.toList = ws := ⟨_, rfl⟩
  rw [hws] at CW hF hdone hwn
  clear hws
  generalize foldL name.data.toList body.data.toList = res at hdone ⊢
  have CW := Lib.hid CW
  have HF := Lib.hid hF
  have HD := Lib.hid hdone
  have hinit : name ++ ⟨#[58]⟩ = bsOf (name.data.toList ++ [58]) := by
    conv => lhs; rw [hnb]
    exact bsOf_append _ _
  have HI := Lib.hid hinit
  clear hF hdone hnb hinit
  unfold strV
  go_enter Tryz.func73, Tryz.ntmps73
  go_wp2_with fail
  refine CW.out.mono ?_
  rintro e w1 ⟨v, rfl, hown, hbl⟩
  have HO := Lib.hid hown
  have HBL := Lib.hid (((Below.refl w.heap.size w).alloc (Nat.le_refl _) (.cells #[.string name, .string body] 80)).trans (hbl.mono (by simp)))
  obtain ⟨A, cap, rfl⟩ := own_shape hown
  clear hown hbl CW
  go_wp2_with fail
  go_loop [3, 4, 6] (fun o l v => ∃ (k : Nat) (out line : List UInt8) (first : Bool), v = .int .i64 k ∧ o = .string (bsOf out) ∧ l = .string (bsOf line) ∧ Hid (FoldAt ws (name.data.toList ++ [58]) k out line first ∧ (first = decide (k = 0)))) (fun _ _ v => ws.length - (RowKit.intOf v).toNat)
  case atStart => exact ⟨0, [], _, true, rfl, rfl, by rw [HI.out], Lib.hid ⟨HF.out, rfl⟩⟩
  case round =>
    obtain ⟨k, out, line, first, rfl, rfl, rfl, HA⟩ := hrel
    have hkl := HA.out.1.le
    have hsz := HA.out.1.size
    have z1 : (bsOf out).size ≤ 4000000 := by rw [bsOf_size]; omega
    have z2 : (bsOf line).size ≤ 4000000 := by rw [bsOf_size]; omega
    by_cases hlt : k < ws.length
    · obtain ⟨g, cap', he, hB, hg, hc, hcell⟩ := own_cell HO.out (by omega)
      injection he with he1 _ he2
      subst he1; subst he2
      have ck := hcell k (.string (bsOf ws[k])) (by rw [List.getElem?_map, List.getElem?_eq_getElem hlt]; rfl)
      have z3 : (bsOf ws[k]).size ≤ 4000000 := by
        rw [bsOf_size]
        have := lens_drop hlt
        omega
      have hs2 := Lib.hid (bsOf_size line)
      have hs3 := Lib.hid (bsOf_size ws[k])
      have HC := Lib.hid hcell
      clear hcell
      by_cases ht : first = false ∧ 78 < line.length + 1 + ws[k].length
      · obtain ⟨rfl, ht⟩ := ht
        have hk0 : k ≠ 0 := by
          intro e
          have := HA.out.2
          rw [e] at this
          cases this
        have k0 : ((k : Int) == 0) = false := beq_eq_false_iff_ne.2 (by omega)
        have HN := Lib.hid (HA.out.1.wrap hlt ht)
        have htd : decide ((bsOf line).size + 1 + (bsOf ws[k]).size ≤ 78) = false := decide_eq_false (by rw [hs2.out, hs3.out]; omega)
        have htd' : decide (((bsOf line).size : Int) + 1 + (bsOf ws[k]).size ≤ 78) = false := decide_eq_false (by rw [hs2.out, hs3.out]; omega)
        clear ht
        go_wp2
        go_round
        case rel => exact ⟨k + 1, _, _, false, by go_num, by rw [← bsOf_append, ← bsOf_append, ByteArray.append_assoc]; rfl, by rw [← bsOf_append]; rfl, Lib.hid ⟨HN.out, (decide_eq_false (by omega)).symm⟩⟩
        case measure => simp [RowKit.intOf]; omega
      · have HN := Lib.hid (HA.out.1.line hlt ht)
        by_cases hk0 : k = 0
        · have k0 : ((k : Int) == 0) = true := by rw [hk0]; rfl
          have HK0 := Lib.hid hk0
          clear hk0 ht
          go_wp2
          go_round
          case rel => exact ⟨k + 1, _, _, false, by go_num, rfl, by rw [← bsOf_append, ← bsOf_append]; rfl, Lib.hid ⟨HN.out, (decide_eq_false (by omega)).symm⟩⟩
          case measure => simp [RowKit.intOf]; omega
        · have k0 : ((k : Int) == 0) = false := beq_eq_false_iff_ne.2 (by omega)
          have hff : first = false := by rw [HA.out.2]; exact decide_eq_false hk0
          have ht' : ¬ 78 < line.length + 1 + ws[k].length := fun h => ht ⟨hff, h⟩
          have htd : decide ((bsOf line).size + 1 + (bsOf ws[k]).size ≤ 78) = true := decide_eq_true (by rw [hs2.out, hs3.out]; omega)
          have htd' : decide (((bsOf line).size : Int) + 1 + (bsOf ws[k]).size ≤ 78) = true := decide_eq_true (by rw [hs2.out, hs3.out]; omega)
          clear ht ht' hff
          go_wp2
          go_round
          case rel => exact ⟨k + 1, _, _, false, by go_num, rfl, by rw [← bsOf_append, ← bsOf_append]; rfl, Lib.hid ⟨HN.out, (decide_eq_false (by omega)).symm⟩⟩
          case measure => simp [RowKit.intOf]; omega
    · obtain rfl : k = ws.length := by omega
      have HR := Lib.hid (HD.out _ _ _ HA.out.1)
      go_wp2
      go_ret
      refine ⟨?_, HBL.out⟩
      rw [HR.out, ← bsOf_append, ← bsOf_append, ← ByteArray.append_assoc]
      rfl
end Go.Proofs.YteecmcphbehfgaaGreatDoor
