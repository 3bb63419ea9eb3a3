/- article: the number of lines. Conditions: texts of at most 1000000 bytes. -/
import Derived.Test.YteecmcphbehfgaaGreatDoorB9
import Derived.Test.YteecmcphbehfgaaGreatDoorB8
namespace Go.Proofs.YteecmcphbehfgaaGreatDoor
open Go.RowKit Go.Lib Go.Shelf
attribute [local go_sem] Oper.semAt_some

set_option maxRecDepth 100000 in
set_option maxHeartbeats 4000000 in
theorem count_any (s : ByteArray) (hs : s.size ≤ 1000000) (w : World) : Calls Tryz.prog 37 #[.string s] w fun e w' => e = .returned (.int .i64 ((lineI s.data.toList).length : Nat)) ∧ Below w.heap.size w w' := by
  refine (callsIn_wide (n := 4)).1 ?_
  refine callsIn_of_wp_marks Tryz.func37 rfl trivial ?_ rfl
  simp only [Tryz.ntmps37, List.size_toArray, List.length_cons, List.length_nil, Nat.reduceAdd, Nat.reduceSub, Array.replicate_succ, Array.replicate_zero, List.push_toArray, List.append_toArray, List.nil_append, List.cons_append]
  have CR := Lib.hid (lines_any s)
  gi_wp2_with fail
  refine ⟨trivial, ?_⟩
  refine (callsIn_wide.2 (CR.out _)).mono ?_
  rintro e w2 ⟨rfl, rfl⟩
  gi_wp2_with fail
  have HB2 := Lib.hid (((Below.refl w.heap.size w).alloc (Nat.le_refl _) (.cells #[.int .i64 0] 3)).alloc (by simp) (.cells #[.string s] 9))
  have hr2 : ((w.alloc (.cells #[.int .i64 0] 3)).alloc (.cells #[.string s] 9)).heap[w.heap.size]? = some (.cells #[.int .i64 0] 3 (0, 0)) := (Below.heap_alloc _ _ _ (by simp)).trans (heap_alloc_new w _)
  have hs2 : ((w.alloc (.cells #[.int .i64 0] 3)).alloc (.cells #[.string s] 9)).heap[w.heap.size + 1]? = some (.cells #[.string s] 9 (0, 0)) := by
    have := heap_alloc_new (w.alloc (.cells #[.int .i64 0] 3)) (.cells #[.string s] 9)
    rw [World.size_alloc] at this
    exact this
  have hz2 : ((w.alloc (.cells #[.int .i64 0] 3)).alloc (.cells #[.string s] 9)).heap.size = w.heap.size + 1 + 1 := by simp
  have hlen := lineI_len s.data.toList
  rw [show s.data.toList.length = s.size by simp] at hlen
  generalize (w.alloc (.cells #[.int .i64 0] 3)).alloc (.cells #[.string s] 9) = w2 at *
  refine range_law rfl (by omega) (gf := 75) (lb := #[.pointer (some ⟨w.heap.size + 1, 0, none⟩)]) rfl trivial (enters_of Tryz.func75 (by kernel_rfl) rfl)
    (lines_iter (w.heap.size + 1) s hs _ (fun k => k = w.heap.size + 1) rfl w2 hs2) (by omega) (fun k hk => by have hk' : k = w.heap.size + 1 := hk; omega) (fun _ => rfl)
    (fun pre W => W.heap[w.heap.size]? = some (.cells #[.int .i64 (pre.length : Nat)] 3 (0, 0)) ∧ Below w.heap.size w W)
    (fun _ _ _ => False)
    ?hI (fun _ _ _ _ h _ => h.elim) ⟨hr2, HB2.out⟩
    (fun x => { tmps := #[.string s, undef, .int .i64 0, .pointer (some ⟨w.heap.size, 0, none⟩), .string s, .func (.func 75) #[] #[.pointer (some ⟨w.heap.size + 1, 0, none⟩)], .int .i64 x.1, .string (bsOf x.2), undef, undef, undef], defers := [] }) ?assign ?body ?done ?stop
  case hI =>
    rintro pre W W' ⟨h2, h3⟩ hk
    exact ⟨hk.heap h2 (by rintro (e | ⟨e, _⟩) <;> omega), h3.trans (hk.toBelow (by rintro k (e | ⟨e, _⟩) <;> omega) h3.size)⟩
  case assign =>
    intro l x W K hK
    simp only [encN2]
    gi_wp2
    simpa using hK
  case body =>
    rintro l pre x W ⟨h2, h3⟩ hpre hsz
    have hpl : pre.length + 1 ≤ (lineI s.data.toList).length := by
      have := hpre.length_le
      simpa using this
    have c0 := cell_of_one h2
    have f0 := free_of_one h2
    have H2 := Lib.hid h2
    have H3 := Lib.hid h3
    have hltb := lt_of_block h2
    clear h2 h3 hpre
    gi_wp2
    have hk : Kept (fun k => k = w.heap.size) W (W.setCell ⟨w.heap.size, 0, none⟩ (.int .i64 ((pre.length : Int) + 1))) := (Kept.refl (fun k => k = w.heap.size) W).setCell (p := ⟨w.heap.size, 0, none⟩) (fun _ => rfl) _
    refine ⟨Held.of hk (fun k hk => ⟨by have hk' : k = w.heap.size + 1 := hk; omega, by have hk' : k = w.heap.size + 1 := hk; omega⟩) (fun k o hk hB _ => by have hk' : k = w.heap.size := hk; omega), ?_, H3.out.setCell (p := ⟨w.heap.size, 0, none⟩) (Nat.le_refl _) _⟩
    rw [List.length_append]
    exact one_setCell H2.out
  case done =>
    rintro D W hD ⟨h2, h3⟩ hK
    have c0 := cell_of_one h2
    have f0 := free_of_one h2
    gi_wp2
    refine ⟨by simp, .inl ⟨_, _, rfl, run_takeDeferred hK, ?_⟩⟩
    exact ⟨_, results_tmp rfl _ _ _, rfl, h3.trans ((kept_put _ D _).toBelow (fun k e => by have e' : k = D := e; omega) h3.size)⟩
  case stop =>
    rintro D c pre W _ _ h _
    exact h.elim

/-! ### the builder, once more -/
theorem LB.gcells {B b : Nat} {bs : List UInt8} {g : Option Nat} {w : World} (h : LB B b bs g w) : ∀ k o, g = some k → w.heap[k]? = some o → o.isCells = true := by
  intro k o hg ho
  obtain ⟨C, hB, _⟩ := h
  obtain ⟨v, _, hown, hv⟩ := hB.buf
  rw [hg] at hv
  rcases hown.2 with ⟨rfl, _⟩ | ⟨r, cap, cur, fz, rfl, _, hr, _⟩
  · cases hv
  · injection hv with hv
    have hv' : r = k := hv
    subst hv'
    rw [hr] at ho
    injection ho with ho
    subst ho
    rfl
/-- The builder holds bs; its buffer lies where it lay, or in a new block. -/
def LBNew (B b : Nat) (bs : List UInt8) (g : Option Nat) (w w' : World) : Prop := ∃ g', LB B b bs g' w' ∧ Kept (fun k => k = b ∨ g = some k) w w' ∧ (g' = g ∨ ∀ k, g' = some k → w.heap.size ≤ k)
theorem lb_Write2 {B b : Nat} {bs : List UInt8} {g : Option Nat} {w : World} (h : LB B b bs g w) (t : ByteArray) (hlen : bs.length + t.size ≤ 140737488355328) :
    Calls Tryz.prog 47 #[.pointer (some ⟨b, 0, none⟩), .string t] w fun e w' => e = .returned (.tuple #[.int .i64 t.size, .nilIface]) ∧ LBNew B b (bs ++ t.data.toList) g w w' := by
  have hBw : B ≤ w.heap.size := Nat.le_of_lt (Nat.lt_of_le_of_lt h.base h.lt)
  obtain ⟨C, hB, hs⟩ := h
  refine (bld_WriteString _ B b 0 C g _ t w (by rw [hs]; exact fits_lb) hB (by rw [Lib.byteCells_length]; exact hlen) hBw).mono ?_
  rintro e w' ⟨rfl, v, g', hB', hk, hg⟩
  have e1 : Lib.byteCells bs ++ Lib.strCells t = Lib.byteCells (bs ++ t.data.toList) := by simp [Lib.byteCells, Lib.strCells]
  rw [e1] at hB'
  exact ⟨rfl, g', ⟨_, hB', by simpa using hs⟩, hk, hg⟩
theorem qtL_len (l : List UInt8) : (qtL l).length ≤ l.length + 2 := by unfold qtL; split <;> simp
set_option maxRecDepth 10000 in
set_option maxHeartbeats 1000000 in
theorem quote1_any {B b : Nat} {out : List UInt8} {g : Option Nat} {w : World} (h : LB B b out g w) (s : ByteArray) (hs : s.size ≤ 1000000) (ho : out.length ≤ 10000000000) :
    Calls Tryz.prog 45 #[.string s, .pointer (some ⟨b, 0, none⟩)] w fun e w' => e = .returned (.bool (decide ((qtL s.data.toList).length ≤ 998))) ∧ LBNew B b (out ++ (qtL s.data.toList ++ [10])) g w w' := by
  have CQ := Lib.hid (quoted_any s hs w)
  have hql := qtL_len s.data.toList
  rw [show s.data.toList.length = s.size by simp] at hql
  obtain ⟨q, hq⟩ : ∃ q, qtL s.data.toList = q := ⟨_, rfl⟩
  rw [hq] at hql CQ
  have hqs : (bsOf q).size = q.length := bsOf_size q
  have hcat : bsOf q ++ ⟨#[10]⟩ = bsOf (q ++ [10]) := by rw [← bsOf_append]; rfl
  have CW := lb_Write2 h (bsOf q ++ ⟨#[10]⟩) (by rw [hcat, bsOf_size]; simp; omega)
  rw [hcat, bsOf_data] at CW
  rw [← hcat] at CW
  have HW := Lib.hid CW
  have HQ := Lib.hid hq
  have HH := Lib.hid h
  clear h hq CW hcat
  by_cases hb : q.length ≤ 998
  all_goals
    go_enter Tryz.func45, Tryz.ntmps45
    go_wp2_with fail
    refine CQ.out.mono ?_
    rintro e w1 ⟨rfl, rfl⟩
    simp only [strV]
    go_wp2_with fail
    refine HW.out.mono ?_
    rintro e w2 ⟨rfl, hn⟩
    have HN := Lib.hid hn
    clear hn
    go_wp2
    go_ret
    exact ⟨ret_boolA (by rw [HQ.out]; simp; omega), by rw [HQ.out]; exact HN.out⟩
end Go.Proofs.YteecmcphbehfgaaGreatDoor
