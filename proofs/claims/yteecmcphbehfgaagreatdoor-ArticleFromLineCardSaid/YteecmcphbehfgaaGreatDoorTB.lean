/- Several small texts as one: article, the document's side: ToLine. Conditions: texts of at most 1000000 bytes. article: ToLine. Conditions: texts of at most 1000000 bytes. article: FromLine. Conditions: texts of at most 1000000 bytes. article: FromLine: the walk. Conditions: texts of at most 1000000 bytes. article: a line read back: plain functions. Conditions: none. article, the document's side: FromLine. Conditions: texts of at most 1000000 bytes. article: a text read from a line goes back: plain functions. Conditions: none. The shortened text of a law. Conditions: texts of any length that an int holds. -/
import Derived.Test.YteecmcphbehfgaaGreatDoorP6
import Derived.Test.YteecmcphbehfgaaGreatDoorB3
import Derived.Test.YteecmcphbehfgaaGreatDoorA9
import Derived.Test.YteecmcphbehfgaaGreatDoorShelf
import Derived.Lib.Replace
import Derived.Lib.CountLaws
import Derived.Lib.IndexMore
import Derived.OwnWalk
import Derived.Test.YteecmcphbehfgaaGreatDoorLiftB
namespace Go.Proofs.YteecmcphbehfgaaGreatDoor
section
open Go.RowKit Go.Lib

theorem ne_facts2 {s : ByteArray} (h : 0 < s.size) : s.toList ≠ [] ∧ s.toList.isEmpty = false ∧ (s.toList == []) = false := by
  have e1 : s.toList ≠ [] := by
    rw [Lib.toList_data]
    intro e
    have h2 : s.data.toList.length = s.size := by simp
    rw [e] at h2
    rw [← h2] at h
    exact absurd h (by decide)
  exact ⟨e1, by rw [List.isEmpty_eq_false_iff]; exact e1, by rw [← Bool.not_eq_true, beq_iff_eq]; exact e1⟩
def u8V (c : UInt8) : Value := .int .u8 (c.toNat : Int)
/-- The text with a carriage return ahead of each line feed. -/
def tlL (l : List UInt8) : List UInt8 := l.flatMap fun c => if c = 10 then [13, 10] else [c]
theorem tlL_snoc10 (l : List UInt8) : tlL (l ++ [10]) = tlL l ++ [13] ++ [10] := by simp [tlL]
theorem tlL_snoc {l : List UInt8} {c : UInt8} (h : c ≠ 10) : tlL (l ++ [c]) = tlL l ++ [c] := by simp [tlL, h]
theorem tlL_len (l : List UInt8) : (tlL l).length ≤ 2 * l.length := by
  induction l with
  | nil => simp [tlL]
  | cons c r ih =>
    have e : tlL (c :: r) = (if c = 10 then [13, 10] else [c]) ++ tlL r := by simp [tlL]
    rw [e, List.length_append, List.length_cons]
    split <;> simp <;> omega
/-- The text as a line, or an error. -/
def tlS (l : List UInt8) : List UInt8 × Int := if 65536 < l.length then ([], 5) else if 13 ∈ l then ([], 6) else if l ≠ [] ∧ l.getLast? ≠ some 10 then ([], 4) else (tlL l, 0)
def TlPost (l : List UInt8) (w : World) (e : Ending) (w' : World) : Prop := e = .returned (.tuple #[strV (tlS l).1, .int .i64 (tlS l).2]) ∧ Below w.heap.size w w'
theorem TlPost.mk {l : List UInt8} {w w' : World} {A : ByteArray} {c : Int} (h : tlS l = (A.data.toList, c)) (hb : Below w.heap.size w w') : TlPost l w (.returned (.tuple #[.string A, .int .i64 c])) w' := ⟨by rw [h]; unfold strV; rw [bsOf_eta], hb⟩
theorem take_snoc2 {α : Type} (L : List α) {k : Nat} (h : k < L.length) : L.take (k + 1) = L.take k ++ [L[k]] := by
  rw [List.take_add_one, List.getElem?_eq_getElem h]
  rfl
theorem own_none {B g : Nat} {E : TypeId} {w : World} (h : w.heap[g]? = some (.cells #[] E (0, 0))) (hB : B ≤ g) : w.ownsRow B E 1 (.slice (some ⟨g, 0, none⟩) 0 0) 0 [] :=
  ⟨rfl, .inr ⟨g, 0, #[], rfl, hB, h, Nat.le_refl _, Nat.zero_le _, rfl, rfl⟩⟩
/-- The text of the bytes of an owned row. -/
theorem conv_own {B g n cap : Nat} {l : List UInt8} {w : World} (h : w.ownsRow B 5 1 (.slice (some ⟨g, 0, none⟩) n cap) n (l.map u8V)) :
    (convert 63 9 (.slice (some ⟨g, 0, none⟩) n cap)).run Tryz.prog w = .ok (.string (bsOf l)) w := by
  have hn : l.length = n := by have := own_len h; simpa using this
  subst hn
  refine run_convert_bytes_back w 63 9 5 ⟨g, 0, none⟩ cap l Tryz.underlying63 Tryz.underlying5 Tryz.underlying9 (fun j hj => ?_)
  obtain ⟨g', cap', he, _, _, _, hc⟩ := own_cell h (by omega)
  injection he with he1 _ _
  injection he1 with he1
  injection he1 with he1 _ _
  subst he1
  rw [show (⟨g, 0, none⟩ : Addr).add j = ⟨g, j, none⟩ by simp [Addr.add]; exact fun h => h.symm]
  exact hc j _ (by rw [List.getElem?_map, List.getElem?_eq_getElem hj]; rfl)

set_option maxRecDepth 100000 in
set_option maxHeartbeats 8000000 in
theorem rtoLine_any (s : ByteArray) (hs : s.size ≤ 1000000) (w : World) : Calls Tryz.prog 30 #[.string s] w (TlPost s.data.toList w) := by
  have hll : s.data.toList.length = s.size := by simp
  have HLL := Lib.hid hll
  obtain ⟨i0, hi, hz0, hz1, hz2⟩ := info_parts Tryz.u8_info
  have HI := Lib.hid hi
  have HZ0 := Lib.hid hz0
  have HZ1 := Lib.hid hz1
  have HZ2 := Lib.hid hz2
  clear hll hi hz0 hz1 hz2
  go_enter Tryz.func30, Tryz.ntmps30
  by_cases hbig : 65536 < s.size
  · have HE : Hid (tlS s.data.toList = ([], 5)) := Lib.hid (by unfold tlS; rw [HLL.out, if_pos hbig])
    go_wp2
    go_ret2
    exact .mk HE.out (Below.refl _ _)
  · go_wp2_with fail
    go_loopw [4, 5] (fun v4 v wr => ∃ (k : Nat) (A : Option Addr) (n cap : Nat), v = .int .i64 k ∧ k ≤ s.size ∧ 13 ∉ s.data.toList.take k ∧ v4 = .slice A n cap ∧ Hid (∃ g, A = some (⟨g, 0, none⟩ : Addr)) ∧ n = (tlL (s.data.toList.take k)).length ∧ wr.ownsRow w.heap.size 5 1 v4 n ((tlL (s.data.toList.take k)).map u8V) ∧ Below w.heap.size w wr) (fun _ v _ => s.size - (RowKit.intOf v).toNat)
    case atStart => exact ⟨0, some ⟨w.heap.size, 0, none⟩, 0, 0, rfl, Nat.zero_le _, by simp, rfl, Lib.hid ⟨_, rfl⟩, rfl, own_none (heap_alloc_new w _) (Nat.le_refl _), (Below.refl w.heap.size w).alloc (Nat.le_refl _) _⟩
    case round =>
      obtain ⟨k, A, n, cap, rfl, hk, hno, rfl, HG, hnl, ho, hb⟩ := hrel
      have hnb : n ≤ 2000000 := by
        have := tlL_len (s.data.toList.take k)
        rw [List.length_take, HLL.out] at this
        omega
      have HNL := Lib.hid hnl
      have HNO := Lib.hid hno
      have HO := Lib.hid ho
      have HB := Lib.hid hb
      clear hno hnl ho hb
      by_cases hlt : k < s.size
      · have hlt' : k < s.data.toList.length := by rw [HLL.out]; exact hlt
        have HCE : Hid (s.data.toList[k] = s[k]) := Lib.hid rfl
        by_cases h13 : s[k].toNat = 13
        · have HE : Hid (tlS s.data.toList = ([], 6)) := Lib.hid (by
            unfold tlS
            rw [HLL.out, if_neg (by omega), if_pos]
            have e : s.data.toList[k] = 13 := by rw [HCE.out]; exact UInt8.toNat_inj.1 h13
            rw [← e]
            exact List.getElem_mem _)
          have hcb : ((s[k].toNat : Int) == 13) = true := by simp; omega
          clear h13
          go_wp2
          go_ret2
          exact .mk HE.out HB.out
        · have hne : s[k] ≠ 13 := fun f => h13 (by rw [f]; rfl)
          have HNO2 : Hid (13 ∉ s.data.toList.take (k + 1)) := Lib.hid (by
            rw [take_snoc2 _ hlt']
            intro f
            rcases List.mem_append.1 f with f | f
            · exact HNO.out f
            · exact hne ((List.mem_singleton.1 f).trans HCE.out).symm)
          have hcb : ((s[k].toNat : Int) == 13) = false := by simp; omega
          have hsz := HB.out.size
          clear hne h13
          by_cases h10 : s[k].toNat = 10
          · have HT : Hid (tlL (s.data.toList.take (k + 1)) = tlL (s.data.toList.take k) ++ [13] ++ [10]) := Lib.hid (by
              rw [take_snoc2 _ hlt', HCE.out, show s[k] = 10 from UInt8.toNat_inj.1 h10, tlL_snoc10])
            have hc10 : ((s[k].toNat : Int) == 10) = true := by simp; omega
            go_wp2_with (first | (at_builtin; refine wpList_append_lies _ rfl _ _ 63 rfl w.heap.size 5 i0 (.int .u8 0) 1 1 Tryz.underlying63 HI.out HZ0.out HZ1.out HZ2.out rfl (by decide) (.slice A n cap) n _ rfl (own_kept HO.out ((Kept.refl (fun _ => False) wr).alloc _) (fun _ _ f => f)) ⟨wr.heap.size, 0, none⟩ 1 1 [.int .u8 13] rfl rfl (new_cells _ _ _) (fun u hu => by rw [List.mem_singleton.1 hu]; rfl) (by decide) (by unfold maxLen; omega) (by omega) (by rw [World.size_alloc]; omega) (wr.heap.size + 1) (by simp) ?_; intro ag ac aw ah1 ah3 ah4 ah5; have aO := Lib.hid ah1; have aB := Lib.hid (HB.out.trans ((((Kept.refl (fun k => (Value.slice A n cap).ownBlock = some k) wr).alloc (.cells #[.int .u8 13] 5)).grown ah3 (fun k _ e => e)).toBelow (fun k e => (own_lt HO.out k e).1) HB.out.size)); clear ah1 ah3 ah4 ah5; generalize ae : (some (⟨ag, 0, none⟩ : Addr)) = aA at *; have aE := Lib.hid (show ∃ g, aA = some (⟨g, 0, none⟩ : Addr) from ⟨ag, ae.symm⟩); clear ae; have hazz := aB.out.size) | (at_builtin; refine wpList_append_lies _ rfl _ _ 63 rfl w.heap.size 5 i0 (.int .u8 0) 1 1 Tryz.underlying63 HI.out HZ0.out HZ1.out HZ2.out rfl (by decide) (.slice aA (n + 1) ac) (n + 1) _ rfl (own_kept aO.out ((Kept.refl (fun _ => False) aw).alloc _) (fun _ _ f => f)) ⟨aw.heap.size, 0, none⟩ 1 1 [.int .u8 10] rfl rfl (new_cells _ _ _) (fun u hu => by rw [List.mem_singleton.1 hu]; rfl) (by decide) (by unfold maxLen; omega) (by omega) (by rw [World.size_alloc]; omega) (aw.heap.size + 1) (by simp) ?_; intro bg bc bw bh1 bh3 bh4 bh5; have bO := Lib.hid bh1; have bB := Lib.hid (aB.out.trans ((((Kept.refl (fun k => (Value.slice aA (n + 1) ac).ownBlock = some k) aw).alloc (.cells #[.int .u8 10] 5)).grown bh3 (fun k _ e => e)).toBelow (fun k e => (own_lt aO.out k e).1) aB.out.size)); clear bh1 bh3 bh4 bh5; generalize be : (some (⟨bg, 0, none⟩ : Addr)) = bA at *; have bE := Lib.hid (show ∃ g, bA = some (⟨g, 0, none⟩ : Addr) from ⟨bg, be.symm⟩); clear be) | fail)
            go_wp2
            go_roundw
            case rel =>
              refine ⟨k + 1, bA, n + 1 + 1, bc, by go_num, by omega, HNO2.out, rfl, bE, by rw [HT.out, HNL.out]; simp, ?_, bB.out⟩
              have := bO.out
              rw [HT.out]
              simpa [u8V, List.append_assoc] using this
            case measure => simp [RowKit.intOf]; omega
          · have HT : Hid (tlL (s.data.toList.take (k + 1)) = tlL (s.data.toList.take k) ++ [s[k]]) := Lib.hid (by
              rw [take_snoc2 _ hlt', HCE.out, tlL_snoc (fun f => h10 (by rw [f]; rfl))])
            have hc10 : ((s[k].toNat : Int) == 10) = false := by simp; omega
            go_wp2_with (at_builtin; refine wpList_append_lies _ rfl _ _ 63 rfl w.heap.size 5 i0 (.int .u8 0) 1 1 Tryz.underlying63 HI.out HZ0.out HZ1.out HZ2.out rfl (by decide) (.slice A n cap) n _ rfl (own_kept HO.out ((Kept.refl (fun _ => False) wr).alloc _) (fun _ _ f => f)) ⟨wr.heap.size, 0, none⟩ 1 1 [.int .u8 (s[k].toNat : Int)] rfl rfl (new_cells _ _ _) (fun u hu => by rw [List.mem_singleton.1 hu]; rfl) (by decide) (by unfold maxLen; omega) (by omega) (by rw [World.size_alloc]; omega) (wr.heap.size + 1) (by simp) ?_; intro ag ac aw ah1 ah3 ah4 ah5; have aO := Lib.hid ah1; have aB := Lib.hid (HB.out.trans ((((Kept.refl (fun k => (Value.slice A n cap).ownBlock = some k) wr).alloc (.cells #[.int .u8 (s[k].toNat : Int)] 5)).grown ah3 (fun k _ e => e)).toBelow (fun k e => (own_lt HO.out k e).1) HB.out.size)); clear ah1 ah3 ah4 ah5; generalize ae : (some (⟨ag, 0, none⟩ : Addr)) = aA at *; have aE := Lib.hid (show ∃ g, aA = some (⟨g, 0, none⟩ : Addr) from ⟨ag, ae.symm⟩); clear ae)
            go_wp2
            go_roundw
            case rel =>
              refine ⟨k + 1, aA, n + 1, ac, by go_num, by omega, HNO2.out, rfl, aE, by rw [HT.out, HNL.out]; simp, ?_, aB.out⟩
              have := aO.out
              rw [HT.out]
              simpa [u8V] using this
            case measure => simp [RowKit.intOf]; omega
      · obtain rfl : k = s.size := by omega
        have htk : s.data.toList.take s.size = s.data.toList := List.take_of_length_le (by rw [HLL.out]; exact Nat.le_refl _)
        have HNO2 : Hid (13 ∉ s.data.toList) := Lib.hid (by have := HNO.out; rw [htk] at this; exact this)
        have HCV : Hid ((convert 63 9 (.slice A n cap)).run Tryz.prog wr = .ok (.string (bsOf (tlL s.data.toList))) wr) := Lib.hid (by
          have := HO.out
          obtain ⟨g, rfl⟩ := HG.out
          rw [htk] at this
          exact conv_own this)
        clear htk
        have hconv := HCV.out
        by_cases h0 : s.size = 0
        · obtain rfl : s = ⟨#[]⟩ := by
            apply ByteArray.ext
            exact Array.eq_empty_of_size_eq_zero h0
          have HE : Hid (tlS (⟨#[]⟩ : ByteArray).data.toList = ((bsOf (tlL (⟨#[]⟩ : ByteArray).data.toList)).data.toList, 0)) := Lib.hid (by rw [bsOf_data]; rfl)
          go_wp2
          go_ret2
          exact .mk HE.out HB.out
        · have n123 := ne_facts2 (s := s) (by omega)
          obtain ⟨n1, n2, n3⟩ := n123
          have hlast : s.data.toList.getLast? = some s[s.size - 1] := by
            rw [List.getLast?_eq_getElem?, HLL.out]
            exact List.getElem?_eq_getElem _
          have HLS := Lib.hid hlast
          have hnl2 : s.data.toList ≠ [] := by rw [← Lib.toList_data]; exact n1
          have HNE := Lib.hid hnl2
          clear hlast hnl2
          by_cases hL : s[s.size - 1].toNat = 10
          · have HE : Hid (tlS s.data.toList = ((bsOf (tlL s.data.toList)).data.toList, 0)) := Lib.hid (by
              unfold tlS
              rw [HLL.out, if_neg (by omega), if_neg HNO2.out, if_neg, bsOf_data]
              rintro ⟨_, f⟩
              exact f (by rw [HLS.out, show s[s.size - 1] = 10 from UInt8.toNat_inj.1 hL]))
            have hcb : ((s[s.size - 1].toNat : Int) != 10) = false := by simp; omega
            go_wp2
            go_ret2
            exact .mk HE.out HB.out
          · have HE : Hid (tlS s.data.toList = ([], 4)) := Lib.hid (by
              unfold tlS
              rw [HLL.out, if_neg (by omega), if_neg HNO2.out, if_pos]
              exact ⟨HNE.out, by rw [HLS.out]; intro f; injection f with f; exact hL (by rw [f]; rfl)⟩)
            have hcb : ((s[s.size - 1].toNat : Int) != 10) = true := by simp; omega
            go_wp2
            go_ret2
            exact .mk HE.out HB.out
end
section
open Go.RowKit Go.Lib Go.Shelf

theorem index_mem (l : List UInt8) (c : UInt8) : 0 ≤ Lib.indexByte l c ↔ c ∈ l := by
  induction l with
  | nil => simp [Lib.indexByte]
  | cons b r ih =>
    have hge := Lib.indexByte_ge r c
    unfold Lib.indexByte
    by_cases h : b = c
    · subst h; simp
    · have hb : (b == c) = false := by simp [h]
      rw [hb]
      by_cases h2 : Lib.indexByte r c = -1
      · rw [h2] at ih ⊢
        have hn : ¬ c ∈ r := fun f => absurd (ih.2 f) (by decide)
        simp [hn]
        exact fun e => h e.symm
      · have h3 : c ∈ r := ih.1 (by omega)
        have hb2 : (Lib.indexByte r c == -1) = false := by simp [h2]
        rw [hb2]
        simp [h3]
        omega
theorem suffix_last (l : List UInt8) (c : UInt8) : Lib.hasSuffix l [c] = decide (l.getLast? = some c) := by
  unfold Lib.hasSuffix
  rcases List.eq_nil_or_concat l with rfl | ⟨t, x, rfl⟩
  · simp [List.isSuffixOf]
  · simp [List.isSuffixOf, List.isPrefixOf]
    by_cases h : x = c
    · subst h; simp
    · have hb : (c == x) = false := by simp; exact fun e => h e.symm
      rw [hb, decide_eq_false h]
theorem index_cons_ne {b c : UInt8} {t r : List UInt8} (h : b ≠ c) : Lib.index (b :: r) (c :: t) = if Lib.index r (c :: t) = -1 then -1 else Lib.index r (c :: t) + 1 := by
  have hp : (c :: t).isPrefixOf (b :: r) = false := by simp [List.isPrefixOf]; exact fun e => absurd e.symm h
  rw [Lib.index, hp]
  by_cases h2 : Lib.index r (c :: t) = -1 <;> simp [h2]
/-- A byte that begins no instance stays. -/
theorem replaceK_skip {b c : UInt8} {t new : List UInt8} (h : b ≠ c) : ∀ (k : Nat) (r : List UInt8), Lib.replaceK (c :: t) new k (b :: r) = b :: Lib.replaceK (c :: t) new k r
  | 0, r => rfl
  | k + 1, r => by
    have hi := index_cons_ne (t := t) (r := r) h
    have hge := Lib.index_ge r (c :: t)
    by_cases h2 : Lib.index r (c :: t) = -1
    · rw [h2, if_pos rfl] at hi
      rw [Lib.replaceK, Lib.replaceK, hi, h2]
      simp
    · rw [if_neg h2] at hi
      obtain ⟨i, hiN⟩ : ∃ i : Nat, Lib.index r (c :: t) = i := ⟨(Lib.index r (c :: t)).toNat, by omega⟩
      rw [Lib.replaceK_hit _ _ _ _ i hiN, Lib.replaceK_hit _ _ _ _ (i + 1) (by rw [hi, hiN]; omega)]
      rw [List.take_succ_cons, show i + 1 + (c :: t).length = (i + (c :: t).length) + 1 by omega, List.drop_succ_cons]
      rfl
theorem index_head (t r : List UInt8) : Lib.index (t ++ r) t = 0 := by
  have hp : t.isPrefixOf (t ++ r) = true := by rw [List.isPrefixOf_iff_prefix]; exact List.prefix_append _ _
  cases hl : t ++ r with
  | nil =>
    have ht : t = [] := by
      cases t with
      | nil => rfl
      | cons _ _ => cases hl
    subst ht
    rfl
  | cons b q =>
    rw [hl] at hp
    rw [Lib.index, if_pos hp]
theorem replaceK_here (t new r : List UInt8) (k : Nat) : Lib.replaceK t new (k + 1) (t ++ r) = new ++ Lib.replaceK t new k r := by
  rw [Lib.replaceK_hit _ _ _ _ 0 (index_head t r)]
  rw [List.take_zero, Nat.zero_add, List.drop_left' rfl]
  rfl
theorem count_here {t : List UInt8} (ht : t ≠ []) (r : List UInt8) : Lib.count (t ++ r) t = 1 + Lib.count r t := by
  rw [Lib.count_hit ht (index_head t r), Nat.zero_add, List.drop_left' rfl]
theorem count_skip {b c : UInt8} {t : List UInt8} (h : b ≠ c) (r : List UInt8) : Lib.count (b :: r) (c :: t) = Lib.count r (c :: t) := by
  have hi := index_cons_ne (t := t) (r := r) h
  by_cases h2 : Lib.index r (c :: t) = -1
  · rw [h2, if_pos rfl] at hi
    rw [Lib.count_miss hi, Lib.count_miss h2]
  · rw [if_neg h2] at hi
    have hge := Lib.index_ge r (c :: t)
    obtain ⟨i, hiN⟩ : ∃ i : Nat, Lib.index r (c :: t) = i := ⟨(Lib.index r (c :: t)).toNat, by omega⟩
    rw [Lib.count_hit (by simp) hiN, Lib.count_hit (i := i + 1) (by simp) (by rw [hi, hiN]; omega)]
    rw [show i + 1 + (c :: t).length = (i + (c :: t).length) + 1 by omega, List.drop_succ_cons]
theorem replaceAll_eq {old new : List UInt8} (h : old ≠ new) (l : List UInt8) : Lib.replaceAll l old new = Lib.replaceK old new (Lib.count l old) l := by
  unfold Lib.replaceAll Lib.replace Lib.replaceNum
  have hb : (old == new) = false := by simp [h]
  rw [hb]
  simp
theorem replace_tl (l : List UInt8) : Lib.replaceAll l [10] [13, 10] = tlL l := by
  rw [replaceAll_eq (by decide)]
  induction l with
  | nil => rfl
  | cons b r ih =>
    by_cases h : b = 10
    · subst h
      have e : (10 : UInt8) :: r = [10] ++ r := rfl
      rw [e, count_here (by decide), Nat.add_comm, replaceK_here, ih]
      simp [tlL]
    · rw [count_skip h, replaceK_skip h, ih]
      simp [tlL, h]

set_option maxRecDepth 100000 in
set_option maxHeartbeats 4000000 in
theorem toLine_any (s : ByteArray) (hs : s.size ≤ 1000000) (w : World) (m : Int) (hm : w.cell? ⟨0, 0, none⟩ = some (.int .i64 m)) : Calls Tryz.prog 29 #[.string s] w (TlPost s.data.toList w) := by
  have hll : s.data.toList.length = s.size := by simp
  have HLL := Lib.hid hll
  have CC := Lib.hid (Tryz.strings_Contains_one s 13)
  have CF := Tryz.strings_HasSuffix s ⟨#[10]⟩
  have hcl := Lib.count_le s.data.toList [10]
  rw [hll] at hcl
  have CR := Tryz.strings_ReplaceAll s ⟨#[10]⟩ ⟨#[13, 10]⟩ m w (by omega) hm (by decide) (by
    have e1 : Lib.countB s ⟨#[10]⟩ = Lib.count s.data.toList [10] := rfl
    have e2 : (⟨#[13, 10]⟩ : ByteArray).size = 2 := rfl
    rw [e1, e2]
    omega)
  have e1 : (⟨#[10]⟩ : ByteArray).data.toList = [10] := rfl
  have e2 : (⟨#[13, 10]⟩ : ByteArray).data.toList = [13, 10] := rfl
  rw [e1, e2, replace_tl] at CR
  rw [e1, suffix_last] at CF
  have hfb : Hid (decide (0 ≤ Lib.indexByte s.data.toList 13) = decide (13 ∈ s.data.toList)) := Lib.hid (decide_eq_decide.2 (index_mem _ _))
  have CR := Lib.hid CR
  have CF := Lib.hid CF
  clear hll hcl hm e1 e2
  have hss : s.size ≤ 9223372036854775807 := by omega
  go_enter Tryz.func29, Tryz.ntmps29
  by_cases hbig : 65536 < s.size
  · have HE : Hid (tlS s.data.toList = ([], 5)) := Lib.hid (by unfold tlS; rw [HLL.out, if_pos hbig])
    go_wp2
    go_ret2
    exact .mk HE.out (Below.refl _ _)
  · by_cases h13 : 13 ∈ s.data.toList
    · have HE : Hid (tlS s.data.toList = ([], 6)) := Lib.hid (by unfold tlS; rw [HLL.out, if_neg hbig, if_pos h13])
      have hb := hfb.out
      rw [decide_eq_true h13] at hb
      have HBb := Lib.hid hb
      clear h13 hb
      go_wp2_with fail
      refine (CC.out _).mono ?_
      rintro e w' ⟨rfl, rfl⟩
      rw [HBb.out]
      go_wp2
      go_ret2
      exact .mk HE.out (Below.refl _ _)
    · have hb := hfb.out
      rw [decide_eq_false h13] at hb
      have HBb := Lib.hid hb
      have HNO := Lib.hid h13
      clear h13 hb
      go_wp2_with fail
      refine (CC.out _).mono ?_
      rintro e w' ⟨rfl, rfl⟩
      rw [HBb.out]
      by_cases h0 : s.size = 0
      · obtain rfl : s = ⟨#[]⟩ := by
          apply ByteArray.ext
          exact Array.eq_empty_of_size_eq_zero h0
        go_wp2_with fail
        refine CR.out.mono ?_
        rintro e w1 ⟨rfl, hb1⟩
        have HB1 := Lib.hid hb1
        clear hb1
        go_wp2
        go_ret2
        exact .mk (by rfl) HB1.out
      · obtain ⟨n1, n2, n3⟩ := ne_facts2 (s := s) (by omega)
        have HNE : Hid (s.data.toList ≠ []) := Lib.hid (by rw [← Lib.toList_data]; exact n1)
        by_cases hL : s.data.toList.getLast? = some 10
        · have HE : Hid (tlS s.data.toList = (tlL s.data.toList, 0)) := Lib.hid (by
            unfold tlS
            rw [HLL.out, if_neg hbig, if_neg HNO.out, if_neg]
            rintro ⟨_, f⟩
            exact f hL)
          have hd : decide (s.data.toList.getLast? = some 10) = true := decide_eq_true hL
          have HD := Lib.hid hd
          clear hL hd
          go_wp2_with fail
          refine (CF.out _ hss).mono ?_
          rintro e w' ⟨rfl, rfl⟩
          rw [HD.out]
          go_wp2_with fail
          refine CR.out.mono ?_
          rintro e w1 ⟨rfl, hb1⟩
          have HB1 := Lib.hid hb1
          clear hb1
          go_wp2
          go_ret2
          exact .mk (by rw [HE.out]) HB1.out
        · have HE : Hid (tlS s.data.toList = ([], 4)) := Lib.hid (by
            unfold tlS
            rw [HLL.out, if_neg hbig, if_neg HNO.out, if_pos ⟨HNE.out, hL⟩])
          have hd : decide (s.data.toList.getLast? = some 10) = false := decide_eq_false hL
          have HD := Lib.hid hd
          clear hL hd
          go_wp2_with fail
          refine (CF.out _ hss).mono ?_
          rintro e w' ⟨rfl, rfl⟩
          rw [HD.out]
          go_wp2
          go_ret2
          exact .mk HE.out (Below.refl _ _)
end
section
open Go.RowKit Go.Lib Go.Shelf

/-- Is the byte there a carriage return or a line feed without its fellow? -/
def loneB (l : List UInt8) (k : Nat) : Bool := match l[k]? with
  | some c => if c = 13 then decide (l[k + 1]? ≠ some 10) else if c = 10 then decide (k = 0 ∨ l[k - 1]? ≠ some 13) else false
  | none => false
theorem lone_cr {l : List UInt8} {k : Nat} (h : k < l.length) (hc : l[k] = 13) : loneB l k = decide (l[k + 1]? ≠ some 10) := by
  unfold loneB; rw [List.getElem?_eq_getElem h]; simp [hc]
theorem lone_lf {l : List UInt8} {k : Nat} (h : k < l.length) (hc : l[k] = 10) : loneB l k = decide (k = 0 ∨ l[k - 1]? ≠ some 13) := by
  unfold loneB; rw [List.getElem?_eq_getElem h]; simp [hc]
theorem lone_else {l : List UInt8} {k : Nat} (h : k < l.length) (h1 : l[k] ≠ 13) (h2 : l[k] ≠ 10) : loneB l k = false := by
  unfold loneB; rw [List.getElem?_eq_getElem h]; simp [h1, h2]
theorem pre_cr {l : List UInt8} {k : Nat} (h : k < l.length) (hc : l[k] = 13) : Lib.hasPrefix (l.drop k) [13, 10] = !loneB l k := by
  rw [lone_cr h hc, List.drop_eq_getElem_cons h, hc]
  unfold Lib.hasPrefix
  rw [show ([13, 10] : List UInt8).isPrefixOf (13 :: l.drop (k + 1)) = [10].isPrefixOf (l.drop (k + 1)) by simp [List.isPrefixOf]]
  have hh : (l.drop (k + 1)).head? = l[k + 1]? := List.head?_drop
  rw [← hh]
  cases l.drop (k + 1) with
  | nil => simp [List.isPrefixOf]
  | cons b r =>
    simp [List.isPrefixOf]
    by_cases e : b = 10
    · subst e; simp
    · have hb : ((10 : UInt8) == b) = false := by simp; exact fun f => e f.symm
      rw [hb]; simp [e]
theorem last_take {l : List UInt8} {k : Nat} (h : k < l.length) : (l.take k).getLast? = if k = 0 then none else l[k - 1]? := by
  rw [List.getLast?_eq_getElem?, List.length_take]
  by_cases hk : k = 0
  · subst hk; simp
  · rw [if_neg hk, show min k l.length - 1 = k - 1 by omega, List.getElem?_take, if_pos (by omega)]
theorem suf_lf {l : List UInt8} {k : Nat} (h : k < l.length) (hc : l[k] = 10) : Lib.hasSuffix (l.take (k + 1)) [13, 10] = !loneB l k := by
  rw [lone_lf h hc, take_snoc2 _ h, hc]
  unfold Lib.hasSuffix
  have hl := last_take h
  rw [show ([13, 10] : List UInt8).isSuffixOf (l.take k ++ [10]) = [13].isSuffixOf (l.take k) by simp [List.isSuffixOf, List.isPrefixOf]]
  have := suffix_last (l.take k) 13
  unfold Lib.hasSuffix at this
  rw [this, hl]
  by_cases hk : k = 0
  · subst hk; simp
  · rw [if_neg hk]
    simp [hk]
def flS (l : List UInt8) : List UInt8 × Int × Int := if 131072 < l.length then ([], 131072, 5) else
  match (List.range l.length).find? (loneB l) with
  | some k => ([], ((k : Nat) : Int), 3)
  | none => if l ≠ [] ∧ l.getLast? ≠ some 10 then ([], ((l.length : Nat) : Int), 4) else
    if 65536 < (l.filter (· != 13)).length then ([], 0, 5) else (l.filter (· != 13), 0, 0)
def NoLone (l : List UInt8) (k : Nat) : Prop := ∀ j, j < k → loneB l j = false
theorem find_lone {l : List UInt8} {k : Nat} (h : k < l.length) (hb : loneB l k = true) (hn : NoLone l k) : (List.range l.length).find? (loneB l) = some k := by
  rw [List.find?_range_eq_some]
  exact ⟨hb, List.mem_range.2 h, fun j hj => by rw [hn j hj]; rfl⟩
theorem find_none {l : List UInt8} (hn : NoLone l l.length) : (List.range l.length).find? (loneB l) = none := by
  rw [List.find?_eq_none]
  intro j hj
  rw [hn j (List.mem_range.1 hj)]
  decide
theorem NoLone.next {l : List UInt8} {k : Nat} (h : NoLone l k) (hb : loneB l k = false) : NoLone l (k + 1) := by
  intro j hj
  by_cases e : j = k
  · subst e; exact hb
  · exact h j (by omega)
theorem flS_big {l : List UInt8} (h : 131072 < l.length) : flS l = ([], 131072, 5) := by unfold flS; rw [if_pos h]
theorem flS_lone {l : List UInt8} {k : Nat} (h0 : ¬ 131072 < l.length) (h : k < l.length) (hb : loneB l k = true) (hn : NoLone l k) : flS l = ([], ((k : Nat) : Int), 3) := by unfold flS; rw [if_neg h0, find_lone h hb hn]
theorem flS_end {l : List UInt8} (h0 : ¬ 131072 < l.length) (hn : NoLone l l.length) (h : l ≠ [] ∧ l.getLast? ≠ some 10) : flS l = ([], ((l.length : Nat) : Int), 4) := by unfold flS; rw [if_neg h0, find_none hn]; simp only; rw [if_pos h]
theorem flS_long {l : List UInt8} (h0 : ¬ 131072 < l.length) (hn : NoLone l l.length) (h : ¬ (l ≠ [] ∧ l.getLast? ≠ some 10)) (hz : 65536 < (l.filter (· != 13)).length) : flS l = ([], 0, 5) := by unfold flS; rw [if_neg h0, find_none hn]; simp only; rw [if_neg h, if_pos hz]
theorem flS_ok {l : List UInt8} (h0 : ¬ 131072 < l.length) (hn : NoLone l l.length) (h : ¬ (l ≠ [] ∧ l.getLast? ≠ some 10)) (hz : ¬ 65536 < (l.filter (· != 13)).length) : flS l = (l.filter (· != 13), 0, 0) := by unfold flS; rw [if_neg h0, find_none hn]; simp only; rw [if_neg h, if_neg hz]
/-- Whole line ends, no lone byte. -/
def okP : List UInt8 → Bool
  | [] => true
  | c :: r => if c = 13 then (match r with | d :: t => if d = 10 then okP t else false | [] => false) else if c = 10 then false else okP r
theorem replace_fl : ∀ (n : Nat) (l : List UInt8), l.length ≤ n → okP l = true → Lib.replaceK [13, 10] [10] (Lib.count l [13, 10]) l = l.filter (· != 13)
  | 0, l, h, _ => by
    have : l = [] := List.length_eq_zero_iff.1 (by omega)
    subst this; rfl
  | n + 1, [], _, _ => rfl
  | n + 1, c :: r, h, hk => by
    unfold okP at hk
    by_cases h13 : c = 13
    · subst h13
      rw [if_pos rfl] at hk
      cases r with
      | nil => cases hk
      | cons d t =>
        simp only at hk
        by_cases hd : d = 10
        · subst hd
          rw [if_pos rfl] at hk
          have e : (13 : UInt8) :: 10 :: t = [13, 10] ++ t := rfl
          rw [e, count_here (by decide), Nat.add_comm, replaceK_here, replace_fl n t (by simp at h; omega) hk]
          simp
        · rw [if_neg hd] at hk; cases hk
    · rw [if_neg h13] at hk
      by_cases h10 : c = 10
      · rw [if_pos h10] at hk; cases hk
      · rw [if_neg h10] at hk
        rw [count_skip h13, replaceK_skip h13, replace_fl n r (by simp at h; omega) hk]
        simp [h13]
theorem okP_of : ∀ (n : Nat) (l pre : List UInt8), l.length ≤ n → (∀ j, pre.length ≤ j → loneB (pre ++ l) j = false) → pre.getLast? ≠ some 13 → okP l = true
  | 0, l, _, h, _, _ => by
    have : l = [] := List.length_eq_zero_iff.1 (by omega)
    subst this; rfl
  | n + 1, [], _, _, _, _ => rfl
  | n + 1, c :: r, pre, h, hl, hp => by
    have h0 := hl pre.length (Nat.le_refl _)
    have hlt : pre.length < (pre ++ c :: r).length := by simp
    have hg : (pre ++ c :: r)[pre.length] = c := by simp
    unfold okP
    by_cases h13 : c = 13
    · subst h13
      rw [if_pos rfl]
      rw [lone_cr hlt hg] at h0
      have h1 : (pre ++ 13 :: r)[pre.length + 1]? = some 10 := by simpa using h0
      rw [List.getElem?_append_right (by omega), show pre.length + 1 - pre.length = 1 by omega] at h1
      cases r with
      | nil => simp at h1
      | cons d t =>
        simp at h1
        subst h1
        simp only [if_pos]
        refine okP_of n t (pre ++ [13, 10]) (by simp at h; omega) (fun j hj => ?_) (by simp)
        have := hl j (by simp at hj; omega)
        simpa using this
    · rw [if_neg h13]
      by_cases h10 : c = 10
      · subst h10
        rw [lone_lf hlt hg] at h0
        exfalso
        have h1 : ¬ (pre.length = 0 ∨ (pre ++ 10 :: r)[pre.length - 1]? ≠ some 13) := by simpa using h0
        have h2 : pre.length ≠ 0 := fun e => h1 (.inl e)
        have h3 : (pre ++ 10 :: r)[pre.length - 1]? = some 13 := Decidable.not_not.1 (fun e => h1 (.inr e))
        rw [List.getElem?_append_left (by omega), ← List.getLast?_eq_getElem?] at h3
        exact hp h3
      · rw [if_neg h10]
        refine okP_of n r (pre ++ [c]) (by simp at h; omega) (fun j hj => ?_) (by simp; exact h13)
        have := hl j (by simp at hj; omega)
        simpa using this
theorem replace_from {l : List UInt8} (hn : NoLone l l.length) : Lib.replaceAll l [13, 10] [10] = l.filter (· != 13) := by
  rw [replaceAll_eq (by decide)]
  refine replace_fl _ l (Nat.le_refl _) (okP_of _ l [] (Nat.le_refl _) (fun j _ => ?_) (by simp))
  by_cases h : j < l.length
  · exact hn j h
  · rw [List.nil_append]
    unfold loneB
    rw [List.getElem?_eq_none (by omega)]
def FlPost (l : List UInt8) (w : World) (e : Ending) (w' : World) : Prop := e = .returned (.tuple #[strV (flS l).1, .int .i64 (flS l).2.1, .int .i64 (flS l).2.2]) ∧ Below w.heap.size w w'
theorem FlPost.mk {l : List UInt8} {w w' : World} {A : ByteArray} {a c : Int} (h : flS l = (A.data.toList, a, c)) (hb : Below w.heap.size w w') : FlPost l w (.returned (.tuple #[.string A, .int .i64 a, .int .i64 c])) w' := ⟨by rw [h]; unfold strV; rw [bsOf_eta], hb⟩
end
section
open Go.RowKit Go.Lib Go.Shelf

set_option maxRecDepth 100000 in
set_option maxHeartbeats 4000000 in
theorem fromLine_any (s : ByteArray) (hs : s.size ≤ 1000000) (w : World) (m : Int) (hm : w.cell? ⟨0, 0, none⟩ = some (.int .i64 m)) : Calls Tryz.prog 31 #[.string s] w (FlPost s.data.toList w) := by
  have hll : s.data.toList.length = s.size := by simp
  have HLL := Lib.hid hll
  have CP := Lib.hid (fun R => Tryz.strings_HasPrefix R ⟨#[13, 10]⟩)
  have CF := Lib.hid (fun R => Tryz.strings_HasSuffix R ⟨#[13, 10]⟩)
  have CE := Tryz.strings_HasSuffix s ⟨#[10]⟩
  have hcl := Lib.count_le s.data.toList [13, 10]
  rw [hll] at hcl
  have CR := Tryz.strings_ReplaceAll s ⟨#[13, 10]⟩ ⟨#[10]⟩ m w (by omega) hm (by decide) (by
    have e1 : Lib.countB s ⟨#[13, 10]⟩ = Lib.count s.data.toList [13, 10] := rfl
    have e2 : (⟨#[10]⟩ : ByteArray).size = 1 := rfl
    rw [e1, e2]
    omega)
  have e1 : (⟨#[10]⟩ : ByteArray).data.toList = [10] := rfl
  have e2 : (⟨#[13, 10]⟩ : ByteArray).data.toList = [13, 10] := rfl
  rw [e1, e2] at CR
  rw [e1, suffix_last] at CE
  have CR := Lib.hid CR
  have CE := Lib.hid CE
  clear hll hcl hm e1 e2
  have hss : s.size ≤ 9223372036854775807 := by omega
  go_enter Tryz.func31, Tryz.ntmps31
  by_cases hbig : 131072 < s.size
  · have HE := Lib.hid (flS_big (l := s.data.toList) (by rw [HLL.out]; exact hbig))
    go_wp2
    go_ret3
    exact .mk HE.out (Below.refl _ _)
  · go_wp2_with fail
    go_loopw [12] (fun v wr => ∃ k : Nat, v = .int .i64 k ∧ k ≤ s.size ∧ NoLone s.data.toList k ∧ wr = w) (fun v _ => s.size - (RowKit.intOf v).toNat)
    case atStart => exact ⟨0, rfl, Nat.zero_le _, (fun j hj => absurd hj (Nat.not_lt_zero _)), rfl⟩
    case round =>
      obtain ⟨k, rfl, hk, hno, rfl⟩ := hrel
      have HNO := Lib.hid hno
      clear hno
      by_cases hlt : k < s.size
      · have hlt' : k < s.data.toList.length := by rw [HLL.out]; exact hlt
        have HLT := Lib.hid hlt'
        have HCE : Hid (s.data.toList[k] = s[k]) := Lib.hid rfl
        clear hlt'
        by_cases h13 : s[k].toNat = 13
        · obtain ⟨R, hR⟩ : ∃ R, s.extract k s.size = R := ⟨_, rfl⟩
          have HP : Hid (Lib.hasPrefix R.data.toList (⟨#[13, 10]⟩ : ByteArray).data.toList = !loneB s.data.toList k) := Lib.hid (by
            rw [← hR, ext_drop]
            exact pre_cr HLT.out (HCE.out.trans (UInt8.toNat_inj.1 h13)))
          have hcb : ((s[k].toNat : Int) == 13) = true := by simp; omega
          have hcb2 : ((s[k].toNat : Int) == 10) = false := by simp; omega
          cases hb : loneB s.data.toList k
          · rw [hb] at HP
            have HNX := Lib.hid (HNO.out.next hb)
            clear hb
            go_wp2_with fail
            refine (CP.out R _).mono ?_
            rintro e w' ⟨rfl, rfl⟩
            rw [HP.out]
            go_wp2
            go_roundw
            case rel => exact ⟨k + 1, by go_num, by omega, HNX.out, trivial⟩
            case measure => simp [RowKit.intOf]; omega
          · rw [hb] at HP
            have HE := Lib.hid (flS_lone (by rw [HLL.out]; exact hbig) HLT.out hb HNO.out)
            clear hb
            go_wp2_with fail
            refine (CP.out R _).mono ?_
            rintro e w' ⟨rfl, rfl⟩
            rw [HP.out]
            go_wp2
            go_ret3
            exact .mk HE.out (Below.refl _ _)
        · have hcb : ((s[k].toNat : Int) == 13) = false := by simp; omega
          by_cases h10 : s[k].toNat = 10
          · obtain ⟨R, hR⟩ : ∃ R, s.extract 0 (k + 1) = R := ⟨_, rfl⟩
            have hRz : R.size ≤ 9223372036854775807 := by rw [← hR]; simp; omega
            have HP : Hid (Lib.hasSuffix R.data.toList (⟨#[13, 10]⟩ : ByteArray).data.toList = !loneB s.data.toList k) := Lib.hid (by
              rw [← hR, Lib.extract_data, List.drop_zero]
              exact suf_lf HLT.out (HCE.out.trans (UInt8.toNat_inj.1 h10)))
            have hcb2 : ((s[k].toNat : Int) == 10) = true := by simp; omega
            cases hb : loneB s.data.toList k
            · rw [hb] at HP
              have HNX := Lib.hid (HNO.out.next hb)
              clear hb
              go_wp2_with fail
              refine (CF.out R _ hRz).mono ?_
              rintro e w' ⟨rfl, rfl⟩
              rw [HP.out]
              go_wp2
              go_roundw
              case rel => exact ⟨k + 1, by go_num, by omega, HNX.out, trivial⟩
              case measure => simp [RowKit.intOf]; omega
            · rw [hb] at HP
              have HE := Lib.hid (flS_lone (by rw [HLL.out]; exact hbig) HLT.out hb HNO.out)
              clear hb
              go_wp2_with fail
              refine (CF.out R _ hRz).mono ?_
              rintro e w' ⟨rfl, rfl⟩
              rw [HP.out]
              go_wp2
              go_ret3
              exact .mk HE.out (Below.refl _ _)
          · have hcb2 : ((s[k].toNat : Int) == 10) = false := by simp; omega
            have HNX := Lib.hid (HNO.out.next (lone_else HLT.out (fun f => h13 (by have g := HCE.out.symm.trans f; rw [g]; rfl)) (fun f => h10 (by have g := HCE.out.symm.trans f; rw [g]; rfl))))
            go_wp2
            go_roundw
            case rel => exact ⟨k + 1, by go_num, by omega, HNX.out, trivial⟩
            case measure => simp [RowKit.intOf]; omega
      · obtain rfl : k = s.size := by omega
        have HNA : Hid (NoLone s.data.toList s.data.toList.length) := Lib.hid (by rw [HLL.out]; exact HNO.out)
        have HRP := Lib.hid (replace_from HNA.out)
        have hfl : (s.data.toList.filter (· != 13)).length ≤ s.size := by
          rw [← HLL.out]; exact List.length_filter_le _ _
        obtain ⟨F, hF⟩ : ∃ F, s.data.toList.filter (· != 13) = F := ⟨_, rfl⟩
        rw [hF] at hfl
        have HF := Lib.hid hF
        have hFz : (bsOf F).size = F.length := bsOf_size F
        clear hF
        have hbF : (⟨F.toArray⟩ : ByteArray) = bsOf F := rfl
        by_cases h0 : s.size = 0
        · obtain rfl : s = ⟨#[]⟩ := by
            apply ByteArray.ext
            exact Array.eq_empty_of_size_eq_zero h0
          obtain rfl : F = [] := by rw [← HF.out]; rfl
          go_wp2_with fail
          refine CR.out.mono ?_
          rintro e w1 ⟨rfl, hb1⟩
          rw [HRP.out, HF.out]
          have HB1 := Lib.hid hb1
          clear hb1
          go_wp2
          go_ret3
          exact .mk (by rfl) HB1.out
        · obtain ⟨n1, n2, n3⟩ := ne_facts2 (s := s) (by omega)
          have HNE : Hid (s.data.toList ≠ []) := Lib.hid (by rw [← Lib.toList_data]; exact n1)
          by_cases hL : s.data.toList.getLast? = some 10
          · have HNL : Hid (¬ (s.data.toList ≠ [] ∧ s.data.toList.getLast? ≠ some 10)) := Lib.hid (fun f => f.2 hL)
            have hd : decide (s.data.toList.getLast? = some 10) = true := decide_eq_true hL
            have HD := Lib.hid hd
            clear hL hd
            by_cases hz : 65536 < F.length
            · have HE := Lib.hid (flS_long (by rw [HLL.out]; exact hbig) HNA.out HNL.out (by rw [HF.out]; exact hz))
              go_wp2_with fail
              refine (CE.out _ hss).mono ?_
              rintro e w' ⟨rfl, rfl⟩
              rw [HD.out]
              go_wp2_with fail
              refine CR.out.mono ?_
              rintro e w1 ⟨rfl, hb1⟩
              rw [HRP.out, HF.out, hbF]
              have HB1 := Lib.hid hb1
              clear hb1
              go_wp2
              go_ret3
              exact .mk HE.out HB1.out
            · have HE := Lib.hid (flS_ok (by rw [HLL.out]; exact hbig) HNA.out HNL.out (by rw [HF.out]; exact hz))
              go_wp2_with fail
              refine (CE.out _ hss).mono ?_
              rintro e w' ⟨rfl, rfl⟩
              rw [HD.out]
              go_wp2_with fail
              refine CR.out.mono ?_
              rintro e w1 ⟨rfl, hb1⟩
              rw [HRP.out, HF.out, hbF]
              have HB1 := Lib.hid hb1
              clear hb1
              go_wp2
              go_ret3
              exact .mk (by rw [HE.out, HF.out, bsOf_data]) HB1.out
          · have HE := Lib.hid (flS_end (by rw [HLL.out]; exact hbig) HNA.out ⟨HNE.out, hL⟩)
            have hd : decide (s.data.toList.getLast? = some 10) = false := decide_eq_false hL
            have HD := Lib.hid hd
            clear hL hd
            go_wp2_with fail
            refine (CE.out _ hss).mono ?_
            rintro e w' ⟨rfl, rfl⟩
            rw [HD.out]
            go_wp2
            go_ret3
            exact .mk (by rw [HE.out, HLL.out]) (Below.refl _ _)
end
section
open Go.RowKit Go.Lib

theorem lone_of_ok : ∀ (n : Nat) (l pre : List UInt8), l.length ≤ n → okP l = true → ∀ j, pre.length ≤ j → loneB (pre ++ l) j = false
  | 0, l, pre, h, _, j, hj => by
    have : l = [] := List.length_eq_zero_iff.1 (by omega)
    subst this
    unfold loneB
    rw [List.append_nil, List.getElem?_eq_none hj]
  | n + 1, [], pre, _, _, j, hj => by
    unfold loneB
    rw [List.append_nil, List.getElem?_eq_none hj]
  | n + 1, c :: r, pre, h, hk, j, hj => by
    have hlt : pre.length < (pre ++ c :: r).length := by simp
    have hg : (pre ++ c :: r)[pre.length] = c := by simp
    unfold okP at hk
    by_cases h13 : c = 13
    · subst h13
      rw [if_pos rfl] at hk
      cases r with
      | nil => cases hk
      | cons d t =>
        simp only at hk
        by_cases hd : d = 10
        · subst hd
          rw [if_pos rfl] at hk
          by_cases h1 : j = pre.length
          · subst h1
            rw [lone_cr hlt hg]
            simp
          · by_cases h2 : j = pre.length + 1
            · subst h2
              have hlt2 : pre.length + 1 < (pre ++ 13 :: 10 :: t).length := by simp
              have hg2 : (pre ++ 13 :: 10 :: t)[pre.length + 1] = 10 := by
                have e : (pre ++ 13 :: 10 :: t)[pre.length + 1]? = some 10 := by
                  rw [List.getElem?_append_right (by omega), show pre.length + 1 - pre.length = 1 by omega]
                  rfl
                rw [List.getElem?_eq_getElem hlt2] at e
                injection e
              rw [lone_lf hlt2 hg2]
              simp
            · have := lone_of_ok n t (pre ++ [13, 10]) (by simp at h; omega) hk j (by simp; omega)
              simpa using this
        · rw [if_neg hd] at hk; cases hk
    · rw [if_neg h13] at hk
      by_cases h10 : c = 10
      · rw [if_pos h10] at hk; cases hk
      · rw [if_neg h10] at hk
        by_cases h1 : j = pre.length
        · subst h1
          exact lone_else hlt (by rw [hg]; exact h13) (by rw [hg]; exact h10)
        · have := lone_of_ok n r (pre ++ [c]) (by simp at h; omega) hk j (by simp; omega)
          simpa using this
theorem okP_tl : ∀ (t : List UInt8), 13 ∉ t → okP (tlL t) = true
  | [], _ => rfl
  | c :: r, h => by
    have h1 : c ≠ 13 := fun e => h (by rw [e]; exact List.mem_cons_self ..)
    have h2 : 13 ∉ r := fun e => h (List.mem_cons_of_mem _ e)
    have e : tlL (c :: r) = (if c = 10 then [13, 10] else [c]) ++ tlL r := by simp [tlL]
    rw [e]
    by_cases h10 : c = 10
    · rw [if_pos h10]
      show okP (13 :: 10 :: tlL r) = true
      unfold okP
      rw [if_pos rfl]
      simp only
      rw [if_pos trivial]
      exact okP_tl r h2
    · rw [if_neg h10]
      show okP (c :: tlL r) = true
      unfold okP
      rw [if_neg h1, if_neg h10]
      exact okP_tl r h2
theorem filter_tl : ∀ (t : List UInt8), 13 ∉ t → (tlL t).filter (· != 13) = t
  | [], _ => rfl
  | c :: r, h => by
    have h1 : c ≠ 13 := fun e => h (by rw [e]; exact List.mem_cons_self ..)
    have h2 : 13 ∉ r := fun e => h (List.mem_cons_of_mem _ e)
    have e : tlL (c :: r) = (if c = 10 then [13, 10] else [c]) ++ tlL r := by simp [tlL]
    rw [e, List.filter_append, filter_tl r h2]
    by_cases h10 : c = 10
    · rw [if_pos h10, h10]; rfl
    · rw [if_neg h10]; simp [h1]
theorem last_tl {t : List UInt8} (h : t.getLast? = some 10) : (tlL t).getLast? = some 10 := by
  rcases List.eq_nil_or_concat t with rfl | ⟨r, x, rfl⟩
  · cases h
  · simp at h
    subst h
    simp [tlL]
theorem tlS_parts {t : List UInt8} (h : (tlS t).2 = 0) : (tlS t).1 = tlL t ∧ 13 ∉ t ∧ (t = [] ∨ t.getLast? = some 10) ∧ t.length ≤ 65536 := by
  unfold tlS at h ⊢
  by_cases h1 : 65536 < t.length
  · rw [if_pos h1] at h; exact absurd h (by decide)
  · rw [if_neg h1] at h ⊢
    by_cases h2 : 13 ∈ t
    · rw [if_pos h2] at h; exact absurd h (by decide)
    · rw [if_neg h2] at h ⊢
      by_cases h3 : t ≠ [] ∧ t.getLast? ≠ some 10
      · rw [if_pos h3] at h; exact absurd h (by decide)
      · rw [if_neg h3]
        refine ⟨rfl, h2, ?_, by omega⟩
        by_cases h4 : t = []
        · exact .inl h4
        · exact .inr (Decidable.not_not.1 (fun f => h3 ⟨h4, f⟩))
/-- A line read back is the text. -/
theorem from_to {t : List UInt8} (h : (tlS t).2 = 0) : flS (tlS t).1 = (t, 0, 0) := by
  obtain ⟨h1, h2, h3, h4⟩ := tlS_parts h
  rw [h1]
  have hln := tlL_len t
  have hno : NoLone (tlL t) (tlL t).length := fun j _ => by
    have := lone_of_ok _ (tlL t) [] (Nat.le_refl _) (okP_tl t h2) j (Nat.zero_le _)
    simpa using this
  have hf := filter_tl t h2
  rw [flS_ok (by omega) hno ?_ (by rw [hf]; omega), hf]
  rintro ⟨a, b⟩
  rcases h3 with rfl | h3
  · exact a rfl
  · exact b (last_tl h3)
theorem tlS_len (t : List UInt8) : (tlS t).1.length ≤ 2 * t.length := by
  unfold tlS
  split
  · exact Nat.zero_le _
  · split
    · exact Nat.zero_le _
    · split
      · exact Nat.zero_le _
      · exact tlL_len t
end
section
open Go.RowKit Go.Lib

theorem filter_snoc13 (l : List UInt8) : (l ++ [13]).filter (· != 13) = l.filter (· != 13) := by simp
theorem filter_snoc {l : List UInt8} {c : UInt8} (h : c ≠ 13) : (l ++ [c]).filter (· != 13) = l.filter (· != 13) ++ [c] := by simp [h]

set_option maxRecDepth 100000 in
set_option maxHeartbeats 8000000 in
theorem rfromLine_any (s : ByteArray) (hs : s.size ≤ 1000000) (w : World) : Calls Tryz.prog 32 #[.string s] w (FlPost s.data.toList w) := by
  have hll : s.data.toList.length = s.size := by simp
  have HLL := Lib.hid hll
  obtain ⟨i0, hi, hz0, hz1, hz2⟩ := info_parts Tryz.u8_info
  have HI := Lib.hid hi
  have HZ0 := Lib.hid hz0
  have HZ1 := Lib.hid hz1
  have HZ2 := Lib.hid hz2
  clear hll hi hz0 hz1 hz2
  go_enter Tryz.func32, Tryz.ntmps32
  by_cases hbig : 131072 < s.size
  · have HE := Lib.hid (flS_big (l := s.data.toList) (by rw [HLL.out]; exact hbig))
    go_wp2
    go_ret3
    exact .mk HE.out (Below.refl _ _)
  · go_wp2_with fail
    go_loopw [5, 6] (fun v4 v wr => ∃ (k : Nat) (A : Option Addr) (n cap : Nat), v = .int .i64 k ∧ k ≤ s.size ∧ NoLone s.data.toList k ∧ v4 = .slice A n cap ∧ Hid (∃ g, A = some (⟨g, 0, none⟩ : Addr)) ∧ n = ((s.data.toList.take k).filter (· != 13)).length ∧ wr.ownsRow w.heap.size 5 1 v4 n (((s.data.toList.take k).filter (· != 13)).map u8V) ∧ Below w.heap.size w wr) (fun _ v _ => s.size - (RowKit.intOf v).toNat)
    case atStart => exact ⟨0, some ⟨w.heap.size, 0, none⟩, 0, 0, rfl, Nat.zero_le _, (fun j hj => absurd hj (Nat.not_lt_zero _)), rfl, Lib.hid ⟨_, rfl⟩, rfl, own_none (heap_alloc_new w _) (Nat.le_refl _), (Below.refl w.heap.size w).alloc (Nat.le_refl _) _⟩
    case round =>
      obtain ⟨k, A, n, cap, rfl, hk, hno, rfl, HG, hnl, ho, hb⟩ := hrel
      have hnb : n ≤ 1000000 := by
        have h1 := List.length_filter_le (· != 13) (s.data.toList.take k)
        rw [List.length_take, HLL.out] at h1
        omega
      have HNL := Lib.hid hnl
      have HNO := Lib.hid hno
      have HO := Lib.hid ho
      have HB := Lib.hid hb
      have hsz := HB.out.size
      clear hno hnl ho hb
      by_cases hlt : k < s.size
      · have hlt' : k < s.data.toList.length := by rw [HLL.out]; exact hlt
        have HLT := Lib.hid hlt'
        have HTK : Hid (s.data.toList.take (k + 1) = s.data.toList.take k ++ [s[k]]) := Lib.hid (take_snoc2 s.data.toList hlt')
        have HCE : Hid (s.data.toList[k] = s[k]) := Lib.hid rfl
        by_cases h13 : s[k].toNat = 13
        · have HS13 : Hid (s[k] = 13) := Lib.hid (UInt8.toNat_inj.1 h13)
          have HC13 : Hid (s.data.toList[k] = 13) := Lib.hid (HCE.out.trans (UInt8.toNat_inj.1 h13))
          have hcb : ((s[k].toNat : Int) == 13) = true := by simp; omega
          have hcb2 : ((s[k].toNat : Int) == 10) = false := by simp; omega
          by_cases hend : k + 1 = s.size
          · have HE := Lib.hid (flS_lone (by rw [HLL.out]; exact hbig) HLT.out (by rw [lone_cr HLT.out HC13.out, List.getElem?_eq_none (by rw [HLL.out]; omega)]; rfl) HNO.out)
            have hendb : ((k : Int) + 1 == (s.size : Int)) = true := by simp; omega
            go_wp2
            go_ret3
            exact .mk HE.out HB.out
          · have hk1 : k + 1 < s.size := by omega
            have hendb : ((k : Int) + 1 == (s.size : Int)) = false := by simp; omega
            have HX1 : Hid (s.data.toList[k + 1]? = some s[k + 1]) := Lib.hid (List.getElem?_eq_getElem (by rw [HLL.out]; exact hk1))
            by_cases hn10 : s[k + 1].toNat = 10
            · have HL : Hid (loneB s.data.toList k = false) := Lib.hid (by rw [lone_cr HLT.out HC13.out, HX1.out, show s[k + 1] = 10 from UInt8.toNat_inj.1 hn10]; decide)
              have HNX := Lib.hid (HNO.out.next HL.out)
              have HT : Hid ((s.data.toList.take (k + 1)).filter (· != 13) = (s.data.toList.take k).filter (· != 13)) := Lib.hid (by rw [HTK.out, HS13.out, filter_snoc13])
              have hnb1 : ((s[k + 1].toNat : Int) != 10) = false := by simp; omega
              go_wp2
              go_roundw
              case rel => exact ⟨k + 1, A, n, cap, by go_num, by omega, HNX.out, rfl, HG, by rw [HT.out, HNL.out], by rw [HT.out]; exact HO.out, HB.out⟩
              case measure => simp [RowKit.intOf]; omega
            · have HE := Lib.hid (flS_lone (by rw [HLL.out]; exact hbig) HLT.out (by rw [lone_cr HLT.out HC13.out, HX1.out]; simp; intro f; exact hn10 (by rw [f]; rfl)) HNO.out)
              have hnb1 : ((s[k + 1].toNat : Int) != 10) = true := by simp; omega
              go_wp2
              go_ret3
              exact .mk HE.out HB.out
        · have hcb : ((s[k].toNat : Int) == 13) = false := by simp; omega
          have hcbn : ((s[k].toNat : Int) != 13) = true := by simp; omega
          have HN13 : Hid (s.data.toList[k] ≠ 13) := Lib.hid (fun f => h13 (by have g := HCE.out.symm.trans f; rw [g]; rfl))
          have HNS : Hid (s[k] ≠ 13) := Lib.hid (fun f => h13 (by rw [f]; rfl))
          have HT : Hid ((s.data.toList.take (k + 1)).filter (· != 13) = (s.data.toList.take k).filter (· != 13) ++ [s[k]]) := Lib.hid (by rw [HTK.out, filter_snoc HNS.out])
          by_cases h10 : s[k].toNat = 10
          · have HC10 : Hid (s.data.toList[k] = 10) := Lib.hid (HCE.out.trans (UInt8.toNat_inj.1 h10))
            have HS10 : Hid (s[k] = 10) := Lib.hid (UInt8.toNat_inj.1 h10)
            have hcb2 : ((s[k].toNat : Int) == 10) = true := by simp; omega
            by_cases hk0 : k = 0
            · subst hk0
              have HE := Lib.hid (flS_lone (by rw [HLL.out]; exact hbig) HLT.out (by rw [lone_lf HLT.out HC10.out]; simp) HNO.out)
              go_wp2
              go_ret3
              exact .mk HE.out HB.out
            · have hk1 : k - 1 < s.size := by omega
              have hk0b : ((k : Int) == 0) = false := by simp; omega
              have HX1 : Hid (s.data.toList[k - 1]? = some s[k - 1]) := Lib.hid (List.getElem?_eq_getElem (by rw [HLL.out]; exact hk1))
              by_cases hp : s[k - 1].toNat = 13
              · have HL : Hid (loneB s.data.toList k = false) := Lib.hid (by rw [lone_lf HLT.out HC10.out, HX1.out, show s[k - 1] = 13 from UInt8.toNat_inj.1 hp]; simp [hk0])
                have HNX := Lib.hid (HNO.out.next HL.out)
                have hpb : ((s[k - 1].toNat : Int) != 13) = false := by simp; omega
                go_wp2_with (at_builtin; refine wpList_append_lies _ rfl _ _ 63 rfl w.heap.size 5 i0 (.int .u8 0) 1 1 Tryz.underlying63 HI.out HZ0.out HZ1.out HZ2.out rfl (by decide) (.slice A n cap) n _ rfl (own_kept HO.out ((Kept.refl (fun _ => False) wr).alloc _) (fun _ _ f => f)) ⟨wr.heap.size, 0, none⟩ 1 1 [.int .u8 10] rfl rfl (new_cells _ _ _) (fun u hu => by rw [List.mem_singleton.1 hu]; rfl) (by decide) (by unfold maxLen; omega) (by omega) (by rw [World.size_alloc]; omega) (wr.heap.size + 1) (by simp) ?_; intro ag ac aw ah1 ah3 ah4 ah5; have aO := Lib.hid ah1; have aB := Lib.hid (HB.out.trans ((((Kept.refl (fun k => (Value.slice A n cap).ownBlock = some k) wr).alloc (.cells #[.int .u8 10] 5)).grown ah3 (fun k _ e => e)).toBelow (fun k e => (own_lt HO.out k e).1) HB.out.size)); clear ah1 ah3 ah4 ah5; generalize ae : (some (⟨ag, 0, none⟩ : Addr)) = aA at *; have aE := Lib.hid (show ∃ g, aA = some (⟨g, 0, none⟩ : Addr) from ⟨ag, ae.symm⟩); clear ae)
                go_wp2
                go_roundw
                case rel =>
                  refine ⟨k + 1, aA, n + 1, ac, by go_num, by omega, HNX.out, rfl, aE, by rw [HT.out, HNL.out]; simp, ?_, aB.out⟩
                  have := aO.out
                  rw [HT.out, HS10.out]
                  simpa [u8V] using this
                case measure => simp [RowKit.intOf]; omega
              · have HE := Lib.hid (flS_lone (by rw [HLL.out]; exact hbig) HLT.out (by rw [lone_lf HLT.out HC10.out, HX1.out]; simp; exact .inr (fun f => hp (by rw [f]; rfl))) HNO.out)
                have hpb : ((s[k - 1].toNat : Int) != 13) = true := by simp; omega
                go_wp2
                go_ret3
                exact .mk HE.out HB.out
          · have hcb2 : ((s[k].toNat : Int) == 10) = false := by simp; omega
            have HNX := Lib.hid (HNO.out.next (lone_else HLT.out HN13.out (fun f => h10 (by have g := HCE.out.symm.trans f; rw [g]; rfl))))
            go_wp2_with (at_builtin; refine wpList_append_lies _ rfl _ _ 63 rfl w.heap.size 5 i0 (.int .u8 0) 1 1 Tryz.underlying63 HI.out HZ0.out HZ1.out HZ2.out rfl (by decide) (.slice A n cap) n _ rfl (own_kept HO.out ((Kept.refl (fun _ => False) wr).alloc _) (fun _ _ f => f)) ⟨wr.heap.size, 0, none⟩ 1 1 [.int .u8 (s[k].toNat : Int)] rfl rfl (new_cells _ _ _) (fun u hu => by rw [List.mem_singleton.1 hu]; rfl) (by decide) (by unfold maxLen; omega) (by omega) (by rw [World.size_alloc]; omega) (wr.heap.size + 1) (by simp) ?_; intro ag ac aw ah1 ah3 ah4 ah5; have aO := Lib.hid ah1; have aB := Lib.hid (HB.out.trans ((((Kept.refl (fun k => (Value.slice A n cap).ownBlock = some k) wr).alloc (.cells #[.int .u8 (s[k].toNat : Int)] 5)).grown ah3 (fun k _ e => e)).toBelow (fun k e => (own_lt HO.out k e).1) HB.out.size)); clear ah1 ah3 ah4 ah5; generalize ae : (some (⟨ag, 0, none⟩ : Addr)) = aA at *; have aE := Lib.hid (show ∃ g, aA = some (⟨g, 0, none⟩ : Addr) from ⟨ag, ae.symm⟩); clear ae)
            go_wp2
            go_roundw
            case rel =>
              refine ⟨k + 1, aA, n + 1, ac, by go_num, by omega, HNX.out, rfl, aE, by rw [HT.out, HNL.out]; simp, ?_, aB.out⟩
              have := aO.out
              rw [HT.out]
              simpa [u8V] using this
            case measure => simp [RowKit.intOf]; omega
      · obtain rfl : k = s.size := by omega
        have htk : s.data.toList.take s.size = s.data.toList := List.take_of_length_le (by rw [HLL.out]; exact Nat.le_refl _)
        have HNA : Hid (NoLone s.data.toList s.data.toList.length) := Lib.hid (by rw [HLL.out]; exact HNO.out)
        have HNL2 : Hid (n = (s.data.toList.filter (· != 13)).length) := Lib.hid (by have := HNL.out; rw [htk] at this; exact this)
        have HCV : Hid ((convert 63 9 (.slice A n cap)).run Tryz.prog wr = .ok (.string (bsOf (s.data.toList.filter (· != 13)))) wr) := Lib.hid (by
          have := HO.out
          obtain ⟨g, rfl⟩ := HG.out
          rw [htk] at this
          exact conv_own this)
        clear htk
        have hconv := HCV.out
        by_cases h0 : s.size = 0
        · obtain rfl : s = ⟨#[]⟩ := by
            apply ByteArray.ext
            exact Array.eq_empty_of_size_eq_zero h0
          have hn0 : n = 0 := HNL2.out
          subst hn0
          go_wp2
          go_ret3
          exact .mk (by rw [bsOf_data]; rfl) HB.out
        · obtain ⟨n1, n2, n3⟩ := ne_facts2 (s := s) (by omega)
          have hlast : s.data.toList.getLast? = some s[s.size - 1] := by
            rw [List.getLast?_eq_getElem?, HLL.out]
            exact List.getElem?_eq_getElem _
          have HLS := Lib.hid hlast
          have hnl2 : s.data.toList ≠ [] := by rw [← Lib.toList_data]; exact n1
          have HNE := Lib.hid hnl2
          clear hlast hnl2
          by_cases hL : s[s.size - 1].toNat = 10
          · have HNN : Hid (¬ (s.data.toList ≠ [] ∧ s.data.toList.getLast? ≠ some 10)) := Lib.hid (by
              rintro ⟨_, f⟩
              exact f (by rw [HLS.out, show s[s.size - 1] = 10 from UInt8.toNat_inj.1 hL]))
            have hcb : ((s[s.size - 1].toNat : Int) != 10) = false := by simp; omega
            by_cases hz : 65536 < n
            · have HE := Lib.hid (flS_long (by rw [HLL.out]; exact hbig) HNA.out HNN.out (by rw [← HNL2.out]; exact hz))
              go_wp2
              go_ret3
              exact .mk HE.out HB.out
            · have HE := Lib.hid (flS_ok (by rw [HLL.out]; exact hbig) HNA.out HNN.out (by rw [← HNL2.out]; exact hz))
              go_wp2
              go_ret3
              exact .mk (by rw [HE.out, bsOf_data]) HB.out
          · have HE := Lib.hid (flS_end (by rw [HLL.out]; exact hbig) HNA.out ⟨HNE.out, by rw [HLS.out]; intro f; injection f with f; exact hL (by rw [f]; rfl)⟩)
            have hcb : ((s[s.size - 1].toNat : Int) != 10) = true := by simp; omega
            go_wp2
            go_ret3
            exact .mk (by rw [HE.out, HLL.out]) HB.out
end
section
open Go.RowKit Go.Lib

theorem tl_filter : ∀ (n : Nat) (l : List UInt8), l.length ≤ n → okP l = true → tlL (l.filter (· != 13)) = l
  | 0, l, h, _ => by
    have : l = [] := List.length_eq_zero_iff.1 (by omega)
    subst this; rfl
  | n + 1, [], _, _ => rfl
  | n + 1, c :: r, h, hk => by
    unfold okP at hk
    by_cases h13 : c = 13
    · subst h13
      rw [if_pos rfl] at hk
      cases r with
      | nil => cases hk
      | cons d t =>
        simp only at hk
        by_cases hd : d = 10
        · subst hd
          rw [if_pos rfl] at hk
          have ih := tl_filter n t (by simp at h; omega) hk
          have e : ((13 : UInt8) :: 10 :: t).filter (· != 13) = 10 :: t.filter (· != 13) := by simp
          have e2 : tlL (10 :: t.filter (· != 13)) = [13, 10] ++ tlL (t.filter (· != 13)) := by simp [tlL]
          rw [e, e2, ih]
          rfl
        · rw [if_neg hd] at hk; cases hk
    · rw [if_neg h13] at hk
      by_cases h10 : c = 10
      · rw [if_pos h10] at hk; cases hk
      · rw [if_neg h10] at hk
        have ih := tl_filter n r (by simp at h; omega) hk
        have e : (c :: r).filter (· != 13) = c :: r.filter (· != 13) := by simp [h13]
        have e2 : tlL (c :: r.filter (· != 13)) = [c] ++ tlL (r.filter (· != 13)) := by simp [tlL, h10]
        rw [e, e2, ih]
        rfl
theorem flS_parts {l : List UInt8} (h : (flS l).2.2 = 0) : (flS l).1 = l.filter (· != 13) ∧ NoLone l l.length ∧ (l = [] ∨ l.getLast? = some 10) ∧ (l.filter (· != 13)).length ≤ 65536 := by
  unfold flS at h ⊢
  by_cases h1 : 131072 < l.length
  · rw [if_pos h1] at h; exact absurd h (by decide)
  · rw [if_neg h1] at h ⊢
    cases hf : (List.range l.length).find? (loneB l) with
    | some k => rw [hf] at h; simp at h
    | none =>
      rw [hf] at h
      simp only at h ⊢
      by_cases h3 : l ≠ [] ∧ l.getLast? ≠ some 10
      · rw [if_pos h3] at h; simp at h
      · rw [if_neg h3] at h ⊢
        by_cases h4 : 65536 < (l.filter (· != 13)).length
        · rw [if_pos h4] at h; exact absurd h (by decide)
        · rw [if_neg h4]
          refine ⟨rfl, fun j hj => ?_, ?_, by omega⟩
          · have := List.find?_eq_none.1 hf j (List.mem_range.2 hj)
            simpa using this
          · by_cases h5 : l = []
            · exact .inl h5
            · exact .inr (Decidable.not_not.1 (fun f => h3 ⟨h5, f⟩))
/-- What came from a line goes back to it. -/
theorem to_from {l : List UInt8} (h : (flS l).2.2 = 0) : tlS (flS l).1 = (l, 0) := by
  obtain ⟨h1, h2, h3, h4⟩ := flS_parts h
  rw [h1]
  have hok : okP l = true := okP_of _ l [] (Nat.le_refl _) (fun j _ => by
    by_cases hj : j < l.length
    · exact h2 j hj
    · rw [List.nil_append]
      unfold loneB
      rw [List.getElem?_eq_none (by omega)]) (by simp)
  have ht := tl_filter _ l (Nat.le_refl _) hok
  unfold tlS
  rw [if_neg (by omega), if_neg (by simp), if_neg, ht]
  rintro ⟨a, b⟩
  rcases h3 with rfl | h3
  · exact a rfl
  · rcases List.eq_nil_or_concat l with rfl | ⟨r, x, rfl⟩
    · exact a rfl
    · simp at h3
      subst h3
      exact b (by simp)
theorem flS_len (l : List UInt8) : (flS l).1.length ≤ l.length := by
  unfold flS
  split
  · exact Nat.zero_le _
  · split
    · exact Nat.zero_le _
    · split
      · exact Nat.zero_le _
      · split
        · exact Nat.zero_le _
        · exact List.length_filter_le _ _
end
section
open Go.RowKit Go.Lib

theorem short_any (s : ByteArray) (n : Nat) (hs : s.size ≤ 9223372036854775807) (hn : n ≤ 1000000) (w : World) : Calls Tryz.prog 11 #[.string s, .int .i64 (n : Int)] w fun e w' => e = .returned (.string (s.extract 0 (min s.size n))) ∧ w' = w := by
  have e3 : (min (s.size : Int) (n : Int)).toNat = min s.size n := by omega
  have E3 := Lib.hid e3
  clear e3
  by_cases h : s.size < n
  · go_enter Tryz.func11, Tryz.ntmps11
    go_wp2
    go_ret
    refine ⟨?_, rfl⟩
    show Ending.returned (.string (s.extract 0 (min (s.size : Int) (n : Int)).toNat)) = _
    rw [E3.out]
  · go_enter Tryz.func11, Tryz.ntmps11
    go_wp2
    go_ret
    refine ⟨?_, rfl⟩
    show Ending.returned (.string (s.extract 0 (min (s.size : Int) (n : Int)).toNat)) = _
    rw [E3.out]
theorem short_size (s : ByteArray) (n : Nat) : (s.extract 0 (min s.size n)).size ≤ n := by simp; omega

end
end Go.Proofs.YteecmcphbehfgaaGreatDoor
