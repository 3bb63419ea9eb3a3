/- The folded text of a field, by the program and by the document, over this translation.
   Conditions: texts of at most 1000000 bytes. -/
import Derived.Test.YteecmcphbehfgaaDoorF8
namespace Go.Proofs.YteecmcphbehfgaaDoor
open Go.RowKit Go.Lib

/-! ### a local builder -/
/-- A strings.Builder in block b that holds bs; its buffer's block is g. -/
def LB (B b : Nat) (bs : List UInt8) (g : Option Nat) (w : World) : Prop := ∃ C, Bld 60 B b 0 C g (Lib.byteCells bs) w ∧ C.size = 2
theorem fits_lb : Fits 60 2 0 := ⟨by decide, by kernel_rfl⟩
theorem LB.kept {F : Nat → Prop} {B b : Nat} {bs : List UInt8} {g : Option Nat} {w w' : World} (h : LB B b bs g w) (hk : Kept F w w') (hb : ¬ F b) (hg : ∀ k, g = some k → ¬ F k) : LB B b bs g w' := by
  obtain ⟨C, hB, r⟩ := h
  exact ⟨C, hB.kept hk hb hg, r⟩
theorem LB.lt {B b : Nat} {bs : List UInt8} {g : Option Nat} {w : World} (h : LB B b bs g w) : b < w.heap.size := by obtain ⟨C, hB, _⟩ := h; exact hB.lt
theorem LB.base {B b : Nat} {bs : List UInt8} {g : Option Nat} {w : World} (h : LB B b bs g w) : B ≤ b := by obtain ⟨C, hB, _⟩ := h; exact hB.base
theorem LB.glt {B b : Nat} {bs : List UInt8} {g : Option Nat} {w : World} (h : LB B b bs g w) : ∀ k, g = some k → B ≤ k ∧ k < w.heap.size := by obtain ⟨C, hB, _⟩ := h; exact hB.glt
theorem LB.new (w : World) (B : Nat) (hB : B ≤ w.heap.size) : LB B w.heap.size [] none (w.alloc (.cells #[.pointer none, .slice none 0 0] 60)) :=
  ⟨_, ⟨hB, heap_alloc_new w _, .inl rfl, _, rfl, World.ownsRowF_nil _ _ _ _, rfl⟩, rfl⟩
/-- Neither the builder's block nor its buffer is a row of another type. -/
theorem LB.apart {B b : Nat} {bs : List UInt8} {g : Option Nat} {w : World} {c : Nat} {cs : Array Value} {T : TypeId} {fr : Nat × Nat} (h : LB B b bs g w) (hc : w.heap[c]? = some (.cells cs T fr)) (h1 : T ≠ 60) (h2 : T ≠ 5) : ¬ (c = b ∨ g = some c) := by
  obtain ⟨C, hB, _⟩ := h
  rintro (f | f)
  · subst f
    rw [hB.blk] at hc
    injection hc with hc
    injection hc with _ hc _
    exact h1 hc.symm
  · obtain ⟨v, _, ho, rfl⟩ := hB.buf
    exact Lib.ownBlock_neF ho hc h2 f
theorem LB.row {B b B' sz n : Nat} {bs : List UInt8} {g : Option Nat} {w : World} {E : TypeId} {v : Value} {xs : List Value} (h : LB B b bs g w) (hr : w.ownsRow B' E sz v n xs) (h1 : E ≠ 60) (h2 : E ≠ 5) : ∀ k, v.ownBlock = some k → ¬ (k = b ∨ g = some k) := by
  intro k hk
  rcases hr.2 with ⟨rfl, _⟩ | ⟨r, cap, cur, rfl, _, hg, _⟩
  · cases hk
  · injection hk with hk
    have hk' : r = k := hk
    subst hk'
    exact h.apart hg h1 h2

/-- The builder holds bs behind a call; only its blocks have turned. -/
def LBGrew (B b : Nat) (bs : List UInt8) (g : Option Nat) (w w' : World) : Prop := ∃ g', LB B b bs g' w' ∧ Kept (fun k => k = b ∨ g = some k) w w'
theorem lb_Write {B b : Nat} {bs : List UInt8} {g : Option Nat} {w : World} (h : LB B b bs g w) (t : ByteArray) (hlen : bs.length + t.size ≤ 140737488355328) :
    Calls Tryd.prog 27 #[.pointer (some ⟨b, 0, none⟩), .string t] w fun e w' => e = .returned (.tuple #[.int .i64 t.size, .nilIface]) ∧ LBGrew B b (bs ++ t.data.toList) g w w' := by
  have hBw : B ≤ w.heap.size := Nat.le_of_lt (Nat.lt_of_le_of_lt h.base h.lt)
  obtain ⟨C, hB, hs⟩ := h
  refine (bld_WriteString _ B b 0 C g _ t w (by rw [hs]; exact fits_lb) hB (by rw [Lib.byteCells_length]; exact hlen) hBw).mono ?_
  rintro e w' ⟨rfl, v, g', hB', hk, hg⟩
  have e1 : Lib.byteCells bs ++ Lib.strCells t = Lib.byteCells (bs ++ t.data.toList) := by simp [Lib.byteCells, Lib.strCells]
  rw [e1] at hB'
  exact ⟨rfl, g', ⟨_, hB', by simpa using hs⟩, hk⟩
theorem lb_String {B b : Nat} {bs : List UInt8} {g : Option Nat} {w : World} (h : LB B b bs g w) :
    Calls Tryd.prog 30 #[.pointer (some ⟨b, 0, none⟩)] w fun e w' => e = .returned (strV bs) ∧ LB B b bs g w' ∧ Kept (fun k => g = some k) w w' := by
  obtain ⟨C, hB, r⟩ := h
  exact (bld_String _ B b 0 C g bs w fits_lb.1 hB).mono fun e w' ⟨h1, h2, h3⟩ => ⟨h1, ⟨C, h2, r⟩, h3⟩
theorem lb_Len {B b : Nat} {bs : List UInt8} {g : Option Nat} {w : World} (h : LB B b bs g w) :
    Calls Tryd.prog 29 #[.pointer (some ⟨b, 0, none⟩)] w fun e w' => e = .returned (.int .i64 bs.length) ∧ w = w' := by
  obtain ⟨C, hB, _⟩ := h
  have := bld_Len _ B b 0 C g _ w hB
  rwa [Lib.byteCells_length] at this

/-! ### plain -/
def foldS : List (List UInt8) → List UInt8 → List UInt8 → Bool → List UInt8 × List UInt8
  | [], out, line, _ => (out, line)
  | x :: r, out, line, first => if first = false ∧ 78 < line.length + 1 + x.length then foldS r (out ++ (line ++ [10])) ([32] ++ x) false else foldS r out (line ++ [32] ++ x) false
/-- The lines of a field, each with a line feed. -/
def foldL (name body : List UInt8) : List UInt8 := (foldS (wordsL body) [] (name ++ [58]) true).1 ++ ((foldS (wordsL body) [] (name ++ [58]) true).2 ++ [10])
theorem foldS_wrap {ws : List (List UInt8)} {k : Nat} {out line : List UInt8} (hk : k < ws.length) (h : 78 < line.length + 1 + ws[k].length) : foldS (ws.drop k) out line false = foldS (ws.drop (k + 1)) (out ++ (line ++ [10])) ([32] ++ ws[k]) false := by
  rw [List.drop_eq_getElem_cons hk, foldS, if_pos ⟨rfl, h⟩]
theorem foldS_line {ws : List (List UInt8)} {k : Nat} {out line : List UInt8} {first : Bool} (hk : k < ws.length) (h : ¬ (first = false ∧ 78 < line.length + 1 + ws[k].length)) : foldS (ws.drop k) out line first = foldS (ws.drop (k + 1)) out (line ++ [32] ++ ws[k]) false := by
  rw [List.drop_eq_getElem_cons hk, foldS, if_neg h]
theorem lens_drop {ws : List (List UInt8)} {k : Nat} (hk : k < ws.length) : lensW (ws.drop k) = ws[k].length + lensW (ws.drop (k + 1)) := by
  unfold lensW
  rw [List.drop_eq_getElem_cons hk, List.map_cons, List.sum_cons]

/-- What holds at the head of a round of a fold. -/
structure FoldAt (ws : List (List UInt8)) (init : List UInt8) (k : Nat) (out line : List UInt8) (first : Bool) : Prop where
  le : k ≤ ws.length
  st : foldS (ws.drop k) out line first = foldS ws [] init true
  size : out.length + line.length + lensW (ws.drop k) + 2 * (ws.length - k) ≤ 4000000
theorem FoldAt.wrap {ws : List (List UInt8)} {init : List UInt8} {k : Nat} {out line : List UInt8} (h : FoldAt ws init k out line false) (hk : k < ws.length) (ht : 78 < line.length + 1 + ws[k].length) : FoldAt ws init (k + 1) (out ++ (line ++ [10])) ([32] ++ ws[k]) false :=
  ⟨hk, by rw [← foldS_wrap hk ht, h.st], by have := h.size; rw [lens_drop hk] at this; simp; omega⟩
theorem FoldAt.line {ws : List (List UInt8)} {init : List UInt8} {k : Nat} {out line : List UInt8} {first : Bool} (h : FoldAt ws init k out line first) (hk : k < ws.length) (ht : ¬ (first = false ∧ 78 < line.length + 1 + ws[k].length)) : FoldAt ws init (k + 1) out (line ++ [32] ++ ws[k]) false :=
  ⟨hk, by rw [← foldS_line hk ht, h.st], by have := h.size; rw [lens_drop hk] at this; simp; omega⟩
theorem FoldAt.start {name body : List UInt8} (h1 : name.length ≤ 1000000) (h2 : body.length ≤ 1000000) : FoldAt (wordsL body) (name ++ [58]) 0 [] (name ++ [58]) true :=
  ⟨Nat.zero_le _, rfl, by have := words_both body; simp; omega⟩
theorem FoldAt.done {name body out line : List UInt8} {first : Bool} (h : FoldAt (wordsL body) (name ++ [58]) (wordsL body).length out line first) : foldL name body = out ++ (line ++ [10]) := by
  have := h.st
  rw [List.drop_length] at this
  unfold foldL
  rw [← this]
  rfl

/-! ### the document's fold -/
theorem mk_append (a b : List UInt8) : (⟨a.toArray⟩ : ByteArray) ++ ⟨b.toArray⟩ = ⟨(a ++ b).toArray⟩ := bsOf_append a b

end Go.Proofs.YteecmcphbehfgaaDoor
