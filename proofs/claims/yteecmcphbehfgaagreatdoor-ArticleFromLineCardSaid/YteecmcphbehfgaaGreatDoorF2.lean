/- The words of a text: the plain function, and the walks of ascii.Words and bulletinref01.Words over this translation.
   Conditions: texts of at most 1000000 bytes. -/
import Derived.Test.YteecmcphbehfgaaGreatDoorF1
import Derived.OneCell
import Derived.OwnWalk
namespace Go.Proofs.YteecmcphbehfgaaGreatDoor
open Go.RowKit Go.Lib

/-! ### rows that a call owns -/
theorem own_kept {F : Nat → Prop} {B sz n : Nat} {E : TypeId} {v : Value} {xs : List Value} {w w' : World} (h : w.ownsRow B E sz v n xs) (hk : Kept F w w') (hF : ∀ k, v.ownBlock = some k → ¬ F k) : w'.ownsRow B E sz v n xs := by
  refine ⟨h.1, ?_⟩
  rcases h.2 with hn | ⟨g, cap, cur, rfl, hb, hg, r⟩
  · exact .inl hn
  · exact .inr ⟨g, cap, cur, rfl, hb, hk.heap hg (hF g rfl), r⟩
theorem own_ne {B sz n : Nat} {E T : TypeId} {v : Value} {xs : List Value} {b : Nat} {cs : Array Value} {fr : Nat × Nat} {w : World} (h : w.ownsRow B E sz v n xs) (hb : w.heap[b]? = some (.cells cs T fr)) (hTe : T ≠ E) : v.ownBlock ≠ some b := by
  rcases h.2 with ⟨rfl, _⟩ | ⟨g, cap, cur, rfl, _, hg, _⟩
  · intro e; cases e
  · intro e
    injection e with e
    have e' : g = b := e
    subst e'
    rw [hg] at hb
    injection hb with hb
    injection hb with _ hb _
    exact hTe hb.symm
theorem own_lt {B sz n : Nat} {E : TypeId} {v : Value} {xs : List Value} {w : World} (h : w.ownsRow B E sz v n xs) : ∀ k, v.ownBlock = some k → B ≤ k ∧ k < w.heap.size := by
  intro k hk
  rcases h.2 with ⟨rfl, _⟩ | ⟨g, cap, cur, rfl, hB, hg, _⟩
  · cases hk
  · injection hk with hk
    have hk' : g = k := hk
    subst hk'
    exact ⟨hB, lt_of_block hg⟩
/-- The cells of an owned row. -/
theorem own_cell {B n : Nat} {E : TypeId} {v : Value} {xs : List Value} {w : World} (h : w.ownsRow B E 1 v n xs) (hn : 0 < n) : ∃ g cap, v = .slice (some ⟨g, 0, none⟩) n cap ∧ B ≤ g ∧ g < w.heap.size ∧ n ≤ cap ∧ ∀ j u, xs[j]? = some u → w.cell? ⟨g, j, none⟩ = some u := by
  rcases h.2 with ⟨_, h0⟩ | ⟨g, cap, cur, rfl, hB, hg, hnc, _, hcs, ht⟩
  · omega
  · refine ⟨g, cap, rfl, hB, lt_of_block hg, hnc, fun j u hj => ?_⟩
    rw [Lib.cell_of_heap hg, ← hj, ← ht, Nat.mul_one, List.getElem?_take, ← Array.getElem?_toList]
    split
    · rfl
    · rename_i hlt
      rw [← ht, List.getElem?_take, if_neg (by omega)] at hj
      cases hj
theorem own_len {B n : Nat} {E : TypeId} {v : Value} {xs : List Value} {w : World} (h : w.ownsRow B E 1 v n xs) : xs.length = n := by simpa using h.1
theorem own_shape {B n : Nat} {E : TypeId} {v : Value} {xs : List Value} {w : World} (h : w.ownsRow B E 1 v n xs) : ∃ A cap, v = .slice A n cap := by
  rcases h.2 with ⟨rfl, rfl⟩ | ⟨g, cap, _, rfl, _⟩
  · exact ⟨_, _, rfl⟩
  · exact ⟨_, _, rfl⟩

/-! ### plain -/
/-- The words of a text, the current word so far in hand. -/
def wordsG : List UInt8 → List UInt8 → List (List UInt8)
  | [], cur => if cur = [] then [] else [cur]
  | c :: r, cur => if blkB c then (if cur = [] then wordsG r [] else cur :: wordsG r []) else wordsG r (cur ++ [c])
def wordsL (l : List UInt8) : List (List UInt8) := wordsG l []

theorem wordsG_blk : ∀ (l : List UInt8), wordsG l [] = wordsG (l.dropWhile blkB) []
  | [] => rfl
  | c :: r => by
    by_cases h : blkB c = true
    · rw [List.dropWhile_cons, if_pos h, ← wordsG_blk r]
      simp [wordsG, h]
    · rw [List.dropWhile_cons, if_neg h]
theorem wordsG_word : ∀ (l cur : List UInt8), cur ++ l.takeWhile nblkB ≠ [] → wordsG l cur = (cur ++ l.takeWhile nblkB) :: wordsG (l.dropWhile nblkB) []
  | [], cur, h => by
    have h' : cur ≠ [] := by simpa using h
    simp [wordsG, h']
  | c :: r, cur, h => by
    by_cases hb : blkB c = true
    · have hn : nblkB c = false := by simp [nblkB, hb]
      have h' : cur ≠ [] := by simpa [hn] using h
      rw [List.takeWhile_cons, List.dropWhile_cons]
      simp [wordsG, hb, hn, h']
    · have hn : nblkB c = true := by simp [nblkB, hb]
      rw [List.takeWhile_cons, List.dropWhile_cons, if_pos hn, if_pos hn]
      have := wordsG_word r (cur ++ [c]) (by simp)
      simp only [wordsG, hb, Bool.false_eq_true, if_false]
      rw [this]
      simp
theorem drop_span (p : UInt8 → Bool) (l : List UInt8) (i : Nat) : l.drop (spanL p l i) = (l.drop i).dropWhile p := by
  unfold spanL
  rw [← List.drop_drop]
  generalize l.drop i = m
  induction m with
  | nil => rfl
  | cons c r ih =>
    by_cases h : p c = true
    · rw [List.takeWhile_cons, List.dropWhile_cons, if_pos h, if_pos h]
      simpa using ih
    · rw [List.takeWhile_cons, List.dropWhile_cons, if_neg h, if_neg h]
      rfl
theorem take_span (p : UInt8 → Bool) (l : List UInt8) (i : Nat) : (l.drop i).take (spanL p l i - i) = (l.drop i).takeWhile p := by
  unfold spanL
  rw [Nat.add_sub_cancel_left]
  exact (List.prefix_iff_eq_take.1 (List.takeWhile_prefix p)).symm

/-- At the head of a round: i is the length or begins a word. -/
def AtWord (l : List UInt8) (i : Nat) : Prop := i = l.length ∨ ∃ h : i < l.length, blkB l[i] = false
theorem atWord_span (l : List UInt8) (i : Nat) (hi : i ≤ l.length) : AtWord l (spanL blkB l i) := by
  by_cases he : spanL blkB l i = l.length
  · exact .inl he
  · have hle := spanL_le blkB l i hi
    refine .inr ⟨by omega, ?_⟩
    have hd := drop_span blkB l i
    have hlt : spanL blkB l i < l.length := by omega
    rw [List.drop_eq_getElem_cons hlt] at hd
    have := List.head?_dropWhile_not blkB (l.drop i)
    rw [← hd, List.head?_cons] at this
    exact this
theorem words_span (l : List UInt8) (i : Nat) : wordsG (l.drop i) [] = wordsG (l.drop (spanL blkB l i)) [] := by rw [drop_span, ← wordsG_blk]
theorem words_word {l : List UInt8} {i : Nat} (h : i < l.length) (hb : blkB l[i] = false) : wordsG (l.drop i) [] = ((l.drop i).take (spanL nblkB l i - i)) :: wordsG (l.drop (spanL nblkB l i)) [] := by
  rw [take_span, drop_span]
  have := wordsG_word (l.drop i) [] (by
    rw [List.drop_eq_getElem_cons h, List.takeWhile_cons]
    have hn : nblkB l[i] = true := by simp [nblkB, hb]
    rw [if_pos hn]
    simp)
  simpa using this
theorem span_gt {l : List UInt8} {i : Nat} (h : i < l.length) (hb : blkB l[i] = false) : i < spanL nblkB l i := by
  have hn : nblkB l[i] = true := by simp [nblkB, hb]
  rw [spanL_step h hn]
  exact spanL_ge _ _ _
theorem words_count : ∀ (l cur : List UInt8), (wordsG l cur).length ≤ l.length + 1
  | [], cur => by unfold wordsG; split <;> simp
  | c :: r, cur => by
    have h1 := words_count r []
    have h2 := words_count r (cur ++ [c])
    unfold wordsG
    split
    · split
      · simp; omega
      · simp; omega
    · simp; omega

/-- A word as a string value. -/
def bsOf (l : List UInt8) : ByteArray := ⟨l.toArray⟩
def strV (l : List UInt8) : Value := .string (bsOf l)
theorem strV_extract (s : ByteArray) (i j : Nat) : Value.string (s.extract i j) = strV ((s.data.toList.drop i).take (j - i)) := by
  unfold strV bsOf
  congr 1
  apply ByteArray.ext
  rw [ByteArray.data_extract]
  apply Array.ext'
  simp [List.extract]

theorem new_cells (w : World) (u : Value) (T : TypeId) : ∀ (j : Nat) (x : Value), [u][j]? = some x → (w.alloc (.cells #[u] T)).cell? ((⟨w.heap.size, 0, none⟩ : Addr).add j) = some x := by
  intro j x hj
  cases j with
  | zero => simpa using hj ▸ (cell_of_one (heap_alloc_new w (.cells #[u] T)))
  | succ j => simp at hj

/-! ### the captured variable 'out' -/
/-- Block b holds a slice that owns the row of the words ws; the row's block is g. -/
def OutAt (B b : Nat) (ws : List (List UInt8)) (g : Option Nat) (w : World) : Prop :=
  ∃ v, w.heap[b]? = some (.cells #[v] 51 (0, 0)) ∧ w.ownsRow B 9 1 v ws.length (ws.map strV) ∧ v.ownBlock = g
theorem OutAt.kept {F : Nat → Prop} {B b : Nat} {ws : List (List UInt8)} {g : Option Nat} {w w' : World} (h : OutAt B b ws g w) (hk : Kept F w w') (hb : ¬ F b) (hg : ∀ k, g = some k → ¬ F k) : OutAt B b ws g w' := by
  obtain ⟨v, h1, h2, rfl⟩ := h
  exact ⟨v, hk.heap h1 hb, own_kept h2 hk hg, rfl⟩
theorem OutAt.lt {B b : Nat} {ws : List (List UInt8)} {g : Option Nat} {w : World} (h : OutAt B b ws g w) : b < w.heap.size := by
  obtain ⟨v, h1, _⟩ := h
  exact lt_of_block h1
theorem OutAt.glt {B b : Nat} {ws : List (List UInt8)} {g : Option Nat} {w : World} (h : OutAt B b ws g w) : ∀ k, g = some k → B ≤ k ∧ k < w.heap.size := by
  obtain ⟨v, _, h2, rfl⟩ := h
  exact own_lt h2
theorem OutAt.gne {B b c : Nat} {ws : List (List UInt8)} {g : Option Nat} {w : World} {cs : Array Value} {T : TypeId} {fr : Nat × Nat} (h : OutAt B b ws g w) (hc : w.heap[c]? = some (.cells cs T fr)) (hT : T ≠ 9) : g ≠ some c := by
  obtain ⟨v, _, h2, rfl⟩ := h
  exact own_ne h2 hc hT

/-- The variable holds ws behind a call; only its block and its row's have turned. -/
def OutGrew (B b : Nat) (ws : List (List UInt8)) (g : Option Nat) (w w' : World) : Prop := ∃ g', OutAt B b ws g' w' ∧ Kept (fun k => k = b ∨ g = some k) w w'

theorem Tryz.str_info : (Tryz.prog.info? 9).map (fun i => (i.zero, i.size, i.bytes)) = some (some (.string ⟨#[]⟩), 1, 16) := by kernel_rfl

set_option maxHeartbeats 1000000 in
theorem words1_any {B b : Nat} {ws : List (List UInt8)} {g : Option Nat} {w : World} (x : List UInt8) (h : OutAt B b ws g w) (hn : ws.length ≤ 2000000) (hBw : B ≤ w.heap.size) :
    Calls Tryz.prog 125 #[strV x, .pointer (some ⟨b, 0, none⟩)] w fun e w' => e = .returned (.tuple #[]) ∧ OutGrew B b (ws ++ [x]) g w w' := by
  obtain ⟨v, hb, hown, rfl⟩ := h
  have hlt := lt_of_block hb
  have c0 := cell_of_one hb
  have hne := own_ne hown hb (by decide)
  obtain ⟨i0, hi, hz0, hz1, hz2⟩ := info_parts Tryz.str_info
  have HB := Lib.hid hb
  have HO := Lib.hid hown
  have HI := Lib.hid hi
  have HZ0 := Lib.hid hz0
  have HZ1 := Lib.hid hz1
  have HZ2 := Lib.hid hz2
  have HNE := Lib.hid hne
  clear hb hown hi hz0 hz1 hz2 hne
  unfold strV
  go_enter Tryz.func125, Tryz.ntmps125
  go_wp2_with (at_builtin; refine wpList_append_own _ rfl _ _ 51 rfl B 9 i0 (.string ⟨#[]⟩) 1 16 Tryz.underlying51 HI.out HZ0.out HZ1.out HZ2.out rfl (by decide) _ _ _ rfl (own_kept HO.out ((Kept.refl (fun _ => False) w).alloc _) (fun _ _ f => f)) ⟨w.heap.size, 0, none⟩ 1 1 [.string (bsOf x)] rfl rfl ?c1 ?c2 ?c3 ?c4 ?c5 ?_)
  case c1 => exact new_cells w _ _
  case c2 => intro u hu; rw [List.mem_singleton.1 hu]; rfl
  case c3 => unfold maxLen; omega
  case c4 => omega
  case c5 => simp; omega
  intro v' w1 hown' hgrow hnil
  clear hnil
  obtain ⟨A', cap', rfl⟩ := own_shape hown'
  have hb1 : w1.heap[b]? = some (.cells #[v] 51 (0, 0)) := by
    rw [hgrow.block b (by simp; omega) (fun e => HNE.out e.symm), Below.heap_alloc _ _ _ hlt, HB.out]
  have hk1 : Kept (fun k => k = b ∨ v.ownBlock = some k) w w1 := ((Kept.refl _ w).alloc _).grown hgrow (fun k _ e => .inr e)
  have c1 := cell_of_one hb1
  have f1 := free_of_one hb1
  have HK := Lib.hid hk1
  have HB1 := Lib.hid hb1
  have HO1 := Lib.hid hown'
  clear hk1 hb1 hown' hgrow
  go_wp2
  go_end0
  refine ⟨rfl, _, ⟨_, one_setCell HB1.out, ?_, rfl⟩, HK.out.setCell (fun _ => .inl rfl) _⟩
  have hne1 := own_ne HO1.out HB1.out (by decide)
  have := ownsRow_setCell_other HO1.out (a := ⟨b, 0, none⟩) hne1 (.slice A' (ws.length + 1) cap')
  simpa [strV] using this
end Go.Proofs.YteecmcphbehfgaaGreatDoor
