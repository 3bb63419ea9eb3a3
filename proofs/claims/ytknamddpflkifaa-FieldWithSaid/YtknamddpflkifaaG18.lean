/- Texts in lower case and their comparison, by the program and by the document, over this translation.
   Conditions: texts of at most 1000000 bytes. -/
import Derived.Test.YtknamddpflkifaaF16
import Derived.Laws.IdiomStrings
namespace Go.Proofs.Ytknamddpflkifaa
open Go.RowKit Go.Lib

def lowC (c : UInt8) : UInt8 := if uppB c = true then c + 32 else c
def lowL (l : List UInt8) : List UInt8 := l.map lowC
theorem lowC_toNat (c : UInt8) : (lowC c).toNat = if uppB c = true then c.toNat + 32 else c.toNat := by
  unfold lowC
  split
  · rename_i h
    unfold uppB at h
    simp only [Bool.and_eq_true, decide_eq_true_eq] at h
    rw [UInt8.toNat_add]
    show (c.toNat + 32) % 256 = _
    omega
  · rfl
theorem lowC_up {c : UInt8} (h : uppB c = true) : (lowC c).toNat = c.toNat + 32 ∧ 65 ≤ c.toNat ∧ c.toNat ≤ 90 := by
  rw [lowC_toNat, if_pos h]
  unfold uppB at h
  simp only [Bool.and_eq_true, decide_eq_true_eq] at h
  omega
theorem lowC_id {c : UInt8} (h : uppB c = false) : lowC c = c := by
  unfold lowC
  rw [if_neg (by rw [h]; decide)]

theorem heap_set_fr {w : World} {b i : Nat} {cs : Array Value} {T : TypeId} {fr : Nat × Nat} (hb : w.heap[b]? = some (.cells cs T fr)) (v : Value) :
    (w.setCell ⟨b, i, none⟩ v).heap[b]? = some (.cells (cs.setIfInBounds i v) T fr) := by
  simp [World.setCell, Array.getElem?_modify, hb]
theorem heap_at_size {w : World} {k : Nat} (hk : w.heap.size = k) (o : Obj) : (w.alloc o).heap[k]? = some o := by subst hk; exact heap_alloc_new w o

/-- A block whose first cells are the bytes l. -/
def BytesAt (b : Nat) (l : List UInt8) (w : World) : Prop :=
  ∃ (C : Array Value) (k : Nat), w.heap[b]? = some (.cells C 5 (C.size, k)) ∧ l.length ≤ C.size ∧ ∀ j (h : j < l.length), C[j]? = some (.int .u8 l[j].toNat)
theorem BytesAt.lt {b : Nat} {l : List UInt8} {w : World} (h : BytesAt b l w) : b < w.heap.size := by
  obtain ⟨C, k, h1, _⟩ := h
  exact lt_of_block h1
theorem BytesAt.cell {b : Nat} {l : List UInt8} {w : World} (h : BytesAt b l w) {j : Nat} (hj : j < l.length) : w.cell? ⟨b, j, none⟩ = some (.int .u8 l[j].toNat) := by
  obtain ⟨C, k, h1, h2, h3⟩ := h
  rw [Lib.cell_of_heap h1]
  exact h3 j hj
theorem BytesAt.free {b : Nat} {l : List UInt8} {w : World} (h : BytesAt b l w) {j : Nat} (hj : j < l.length) : w.frozen? ⟨b, j, none⟩ = false := by
  obtain ⟨C, k, h1, h2, h3⟩ := h
  unfold World.frozen?
  rw [h1]
  simp
  omega
theorem BytesAt.set {b : Nat} {l : List UInt8} {w : World} (h : BytesAt b l w) {j : Nat} (hj : j < l.length) (c : UInt8) : BytesAt b (l.set j c) (w.setCell ⟨b, j, none⟩ (.int .u8 c.toNat)) := by
  obtain ⟨C, k, h1, h2, h3⟩ := h
  refine ⟨C.setIfInBounds j (.int .u8 c.toNat), k, ?_, by simpa using h2, ?_⟩
  · rw [heap_set_fr h1, Array.size_setIfInBounds]
  · intro i hi
    rw [List.length_set] at hi
    by_cases e : j = i
    · subst e
      rw [Array.getElem?_setIfInBounds_self_of_lt (by omega)]
      simp
    · rw [Array.getElem?_setIfInBounds_ne e, h3 i hi]
      rw [List.getElem_set_ne e]
theorem BytesAt.new (s : ByteArray) (w w0 : World) (cap : Nat) (hw : w.heap.size = w0.heap.size) : BytesAt w0.heap.size s.data.toList (w.alloc (.cells (bytesRow s cap) 5 ((bytesRow s cap).size, (bytesRow s cap).size + 1))) := by
  refine ⟨_, _, heap_at_size hw _, ?_, ?_⟩
  · unfold bytesRow
    simp
  · intro j hj
    have hj' : j < s.data.size := by simpa using hj
    rw [bytesRow_at s cap j hj']
    simp

theorem lower1_any (c : UInt8) (w : World) : Calls Try.prog 80 #[.int .u8 c.toNat] w fun e w' => e = .returned (.int .u8 (lowC c).toNat) ∧ w = w' := by
  cases h : uppB c
  · have HU := Lib.hid h
    have HL := Lib.hid (lowC_id h)
    clear h
    go_enter Try.func80, Try.ntmps80
    go_wp2_with (go_at_call 66; refine (isUpper_any c w).mono ?_; rintro e w' ⟨rfl, rfl⟩; simp only [HU.out])
    go_ret
    exact ⟨ret_int (by rw [HL.out]), rfl⟩
  · have HU := Lib.hid h
    obtain ⟨h1, h2, h3⟩ := lowC_up h
    have HL := Lib.hid h1
    have h4 : (0 : Int) ≤ (c.toNat : Int) := Int.natCast_nonneg _
    clear h h1
    go_enter Try.func80, Try.ntmps80
    go_wp2_with (go_at_call 66; refine (isUpper_any c w).mono ?_; rintro e w' ⟨rfl, rfl⟩; simp only [HU.out])
    go_ret
    exact ⟨ret_int (by rw [HL.out]; omega), rfl⟩

/-- The bytes at the head of round k. -/
def lowAt (l : List UInt8) (k : Nat) : List UInt8 := lowL (l.take k) ++ l.drop k
theorem lowAt_len (l : List UInt8) (k : Nat) : (lowAt l k).length = l.length := by
  unfold lowAt lowL
  rw [List.length_append, List.length_map, List.length_take, List.length_drop]
  omega
theorem lowAt_zero (l : List UInt8) : lowAt l 0 = l := by simp [lowAt, lowL]
theorem lowAt_all (l : List UInt8) : lowAt l l.length = lowL l := by simp [lowAt]
theorem lowAt_get {l : List UInt8} {k : Nat} (h : k < l.length) (h' : k < (lowAt l k).length) : (lowAt l k)[k] = l[k] := by
  have e : (lowAt l k)[k]? = some l[k] := by
    unfold lowAt lowL
    rw [List.getElem?_append_right (by rw [List.length_map, List.length_take]; omega), List.length_map, List.length_take, List.getElem?_drop, show k + (k - min k l.length) = k by omega, List.getElem?_eq_getElem h]
  rw [List.getElem?_eq_getElem h'] at e
  injection e
theorem lowAt_next {l : List UInt8} {k : Nat} (h : k < l.length) : (lowAt l k).set k (lowC l[k]) = lowAt l (k + 1) := by
  unfold lowAt lowL
  rw [List.set_append_right _ _ (by rw [List.length_map, List.length_take]; omega), List.length_map, List.length_take, show k - min k l.length = 0 by omega, List.drop_eq_getElem_cons h, List.set_cons_zero, List.take_succ_eq_append_getElem h, List.map_append]
  simp
theorem lowAt_same {l : List UInt8} {k : Nat} (h : k < l.length) (hc : lowC l[k] = l[k]) : lowAt l (k + 1) = lowAt l k := by
  rw [← lowAt_next h, hc]
  refine List.ext_getElem? fun i => ?_
  by_cases e : k = i
  · subst e
    rw [List.getElem?_set_self (by rw [lowAt_len]; exact h), List.getElem?_eq_getElem (by rw [lowAt_len]; exact h), lowAt_get h]
  · rw [List.getElem?_set_ne e]

theorem conv_there (w : World) (s : ByteArray) : ∃ cap, (convert 9 64 (.string s)).run Try.prog w = .ok (.slice (some ⟨w.heap.size, 0, none⟩) s.size cap) (w.drew.alloc (.cells (bytesRow s cap) 5 ((bytesRow s cap).size, (bytesRow s cap).size + 1))) :=
  ⟨_, run_bytes_of_string w 9 64 5 s Try.underlying9 Try.underlying64 Try.underlying5⟩
theorem conv_back {w : World} {b : Nat} {l : List UInt8} (h : BytesAt b l w) (cap n : Nat) (hn : l.length = n) : (convert 64 9 (.slice (some ⟨b, 0, none⟩) n cap)).run Try.prog w = .ok (.string (bsOf l)) w := by
  subst hn
  exact run_convert_bytes_back w 64 9 5 ⟨b, 0, none⟩ cap l Try.underlying64 Try.underlying5 Try.underlying9 (fun j hj => by rw [add0]; exact h.cell hj)

/-- What holds at the head of a round of Lower. -/
def LowRel (l : List UInt8) (w : World) (v : Value) (wr : World) : Prop :=
  ∃ k : Nat, k ≤ l.length ∧ v = .int .i64 k ∧ BytesAt w.heap.size (lowAt l k) wr ∧ Below w.heap.size w wr

set_option maxRecDepth 10000 in
set_option maxHeartbeats 1000000 in
theorem lower_any (s : ByteArray) (w : World) (hs : s.size ≤ 9223372036854775807) : Calls Try.prog 60 #[.string s] w fun e w' => e = .returned (strV (lowL s.data.toList)) ∧ Below w.heap.size w w' := by
  obtain ⟨cap, hconv⟩ := conv_there w s
  obtain ⟨l, hl⟩ : ∃ l, s.data.toList = l := ⟨_, rfl⟩
  have hll : l.length = s.size := by rw [← hl]; simp
  have HLL := Lib.hid hll
  have HB0 : Hid (BytesAt w.heap.size (lowAt l 0) (w.drew.alloc (.cells (bytesRow s cap) 5 ((bytesRow s cap).size, (bytesRow s cap).size + 1)))) := Lib.hid (by
    rw [lowAt_zero, ← hl]
    exact BytesAt.new s w.drew w cap rfl)
  rw [hl]
  clear hl hll
  go_enter Try.func60, Try.ntmps60
  go_wp2
  go_loopw [4, 5, 10] (fun _ _ v wr => LowRel l w v wr) (fun _ _ v _ => s.size - (RowKit.intOf v).toNat)
  case atStart => exact ⟨0, Nat.zero_le _, rfl, HB0.out, ((Below.refl _ _).drew.alloc (Nat.le_refl _) _)⟩
  case round =>
    obtain ⟨k, hk, rfl, hB, hbl⟩ := hrel
    rw [HLL.out] at hk
    have HB := Lib.hid hB
    have HBL := Lib.hid hbl
    have hlt0 := hB.lt
    clear hB hbl
    by_cases hlt : k < s.size
    · have hkl : k < l.length := by rw [HLL.out]; exact hlt
      have hk2 : k < (lowAt l k).length := by rw [lowAt_len]; exact hkl
      have c0 := HB.out.cell hk2
      rw [lowAt_get hkl] at c0
      have f0 := HB.out.free hk2
      have HN : Hid (BytesAt w.heap.size (lowAt l (k + 1)) (wr.setCell ⟨w.heap.size, k, none⟩ (.int .u8 (lowC l[k]).toNat))) := Lib.hid (by rw [← lowAt_next hkl]; exact HB.out.set hk2 _)
      clear hk2
      go_wp2_with (go_at_call 80; refine (lower1_any _ _).mono ?_; rintro e w' ⟨rfl, rfl⟩)
      go_roundw
      case rel => exact ⟨k + 1, by omega, by go_num, HN.out, HBL.out.setCell (Nat.le_refl _) _⟩
      case measure => simp [RowKit.intOf]; omega
    · obtain rfl : k = s.size := by omega
      have hback := conv_back HB.out cap s.size (by rw [lowAt_len, HLL.out])
      have HE : Hid (bsOf (lowAt l s.size) = bsOf (lowL l)) := Lib.hid (by rw [← HLL.out, lowAt_all])
      go_wp2
      go_ret
      exact ⟨by rw [show strV (lowL l) = .string (bsOf (lowAt l s.size)) by rw [HE.out]; rfl]; rfl, HBL.out⟩

set_option maxRecDepth 10000 in
set_option maxHeartbeats 1000000 in
theorem rlower_any (s : ByteArray) (w : World) (hs : s.size ≤ 9223372036854775807) : Calls Try.prog 61 #[.string s] w fun e w' => e = .returned (strV (lowL s.data.toList)) ∧ Below w.heap.size w w' := by
  obtain ⟨cap, hconv⟩ := conv_there w s
  obtain ⟨l, hl⟩ : ∃ l, s.data.toList = l := ⟨_, rfl⟩
  have hll : l.length = s.size := by rw [← hl]; simp
  have HLL := Lib.hid hll
  have HB0 : Hid (BytesAt w.heap.size (lowAt l 0) (w.drew.alloc (.cells (bytesRow s cap) 5 ((bytesRow s cap).size, (bytesRow s cap).size + 1)))) := Lib.hid (by
    rw [lowAt_zero, ← hl]
    exact BytesAt.new s w.drew w cap rfl)
  rw [hl]
  clear hl hll
  go_enter Try.func61, Try.ntmps61
  go_wp2
  go_loopw [4] (fun v wr => LowRel l w v wr) (fun v _ => s.size - (RowKit.intOf v).toNat)
  case atStart => exact ⟨0, Nat.zero_le _, rfl, HB0.out, ((Below.refl _ _).drew.alloc (Nat.le_refl _) _)⟩
  case round =>
    obtain ⟨k, hk, rfl, hB, hbl⟩ := hrel
    rw [HLL.out] at hk
    have HB := Lib.hid hB
    have HBL := Lib.hid hbl
    have hlt0 := hB.lt
    clear hB hbl
    by_cases hlt : k < s.size
    · have hkl : k < l.length := by rw [HLL.out]; exact hlt
      have hk2 : k < (lowAt l k).length := by rw [lowAt_len]; exact hkl
      have c0 := HB.out.cell hk2
      rw [lowAt_get hkl] at c0
      have f0 := HB.out.free hk2
      have HN : Hid (BytesAt w.heap.size (lowAt l (k + 1)) (wr.setCell ⟨w.heap.size, k, none⟩ (.int .u8 (lowC l[k]).toNat))) := Lib.hid (by rw [← lowAt_next hkl]; exact HB.out.set hk2 _)
      clear hk2
      cases h : uppB l[k]
      · have HU := Lib.hid h
        have HS := Lib.hid (lowAt_same hkl (lowC_id h))
        clear h
        go_wp2_with (go_at_call 40; refine (uppercase_any _ _).mono ?_; rintro e w' ⟨rfl, rfl⟩; simp only [HU.out])
        go_roundw
        case rel => exact ⟨k + 1, by omega, by go_num, by rw [HS.out]; exact HB.out, HBL.out⟩
        case measure => simp [RowKit.intOf]; omega
      · have HU := Lib.hid h
        obtain ⟨h1, h2, h3⟩ := lowC_up h
        have h4 : (0 : Int) ≤ (l[k].toNat : Int) := Int.natCast_nonneg _
        have HC := Lib.hid h1
        clear h h1
        go_wp2_with (go_at_call 40; refine (uppercase_any _ _).mono ?_; rintro e w' ⟨rfl, rfl⟩; simp only [HU.out])
        go_roundw
        case rel =>
          have e : ((l[k].toNat : Int) + 32) = ((lowC l[k]).toNat : Int) := by rw [HC.out]; omega
          exact ⟨k + 1, by omega, by go_num, by rw [e]; exact HN.out, HBL.out.setCell (Nat.le_refl _) _⟩
        case measure => simp [RowKit.intOf]; omega
    · obtain rfl : k = s.size := by omega
      have hback := conv_back HB.out cap s.size (by rw [lowAt_len, HLL.out])
      have HE : Hid (bsOf (lowAt l s.size) = bsOf (lowL l)) := Lib.hid (by rw [← HLL.out, lowAt_all])
      go_wp2
      go_ret
      exact ⟨by rw [show strV (lowL l) = .string (bsOf (lowAt l s.size)) by rw [HE.out]; rfl]; rfl, HBL.out⟩

/-! ### comparison -/
theorem cmp_zero : ∀ (a b : List UInt8), Lib.compareBytes a b = 0 ↔ a = b
  | [], [] => by simp [Lib.compareBytes]
  | [], _ :: _ => by simp [Lib.compareBytes]
  | _ :: _, [] => by simp [Lib.compareBytes]
  | a :: ar, b :: br => by
    rw [Lib.compareBytes]
    have ih := cmp_zero ar br
    by_cases h1 : a < b
    · rw [if_pos h1]
      simp
      rintro rfl
      exact absurd h1 (by simp)
    · rw [if_neg h1]
      by_cases h2 : b < a
      · rw [if_pos h2]
        simp
        rintro rfl
        exact absurd h2 (by simp)
      · rw [if_neg h2, ih]
        have e : a = b := by
          refine UInt8.toNat.inj ?_
          rw [UInt8.lt_iff_toNat_lt] at h1 h2
          omega
        simp [e]
/-- The same but for case. -/
def sameB (a b : List UInt8) : Bool := decide (lowL a = lowL b)

set_option maxHeartbeats 1000000 in
theorem cmpFold_any (a b : ByteArray) (w : World) (ha : a.size ≤ 9223372036854775807) (hb : b.size ≤ 9223372036854775807) : Calls Try.prog 81 #[.string a, .string b] w fun e w' => e = .returned (.int .i64 (Lib.compareBytes (lowL a.data.toList) (lowL b.data.toList))) ∧ Below w.heap.size w w' := by
  go_enter Try.func81, Try.ntmps81
  go_wp2_with fail
  refine (lower_any a _ ha).mono ?_
  rintro e w1 ⟨rfl, hb1⟩
  have HB1 := Lib.hid hb1
  clear hb1
  go_wp2_with fail
  refine (lower_any b _ hb).mono ?_
  rintro e w2 ⟨rfl, hb2⟩
  have HB2 := Lib.hid (HB1.out.trans (hb2.mono HB1.out.size))
  have CC := Try.strings_Compare (bsOf (lowL a.data.toList)) (bsOf (lowL b.data.toList)) w2
  rw [bsOf_data, bsOf_data] at CC
  have HC := Lib.hid CC
  clear hb2 CC
  unfold strV
  go_wp2_with fail
  refine HC.out.mono ?_
  rintro e w3 ⟨rfl, hw3⟩
  subst hw3
  go_wp2
  go_ret
  exact ⟨rfl, HB2.out⟩
theorem equalFold_any (a b : ByteArray) (w : World) (ha : a.size ≤ 9223372036854775807) (hb : b.size ≤ 9223372036854775807) : Calls Try.prog 64 #[.string a, .string b] w fun e w' => e = .returned (.bool (sameB a.data.toList b.data.toList)) ∧ Below w.heap.size w w' := by
  have hz := cmp_zero (lowL a.data.toList) (lowL b.data.toList)
  have CC := Lib.hid (cmpFold_any a b w ha hb)
  obtain ⟨c, hc⟩ : ∃ c, Lib.compareBytes (lowL a.data.toList) (lowL b.data.toList) = c := ⟨_, rfl⟩
  rw [hc] at CC hz
  have HD : Hid (sameB a.data.toList b.data.toList = (c == 0)) := Lib.hid (by
    unfold sameB
    by_cases h : c = 0
    · rw [decide_eq_true (hz.1 h), beq_iff_eq.2 h]
    · rw [decide_eq_false (fun e => h (hz.2 e)), beq_eq_false_iff_ne.2 h])
  clear hc hz
  go_enter Try.func64, Try.ntmps64
  go_wp2_with fail
  refine CC.out.mono ?_
  rintro e w1 ⟨rfl, hb1⟩
  have HB1 := Lib.hid hb1
  clear hb1
  go_wp2
  go_ret
  exact ⟨by rw [HD.out]; rfl, HB1.out⟩
theorem toList_beq (a b : List UInt8) : ((bsOf a).toList == (bsOf b).toList) = decide (a = b) := by
  rw [ByteArray.toList_eq, ByteArray.toList_eq, bsOf_data, bsOf_data]
  by_cases h : a = b
  · simp [h]
  · simp [h]
set_option maxHeartbeats 1000000 in
theorem is_any (a b : ByteArray) (w : World) (ha : a.size ≤ 9223372036854775807) (hb : b.size ≤ 9223372036854775807) : Calls Try.prog 56 #[.string a, .string b] w fun e w' => e = .returned (.bool (sameB a.data.toList b.data.toList)) ∧ Below w.heap.size w w' := by
  have HE := Lib.hid (toList_beq (lowL a.data.toList) (lowL b.data.toList))
  go_enter Try.func56, Try.ntmps56
  go_wp2_with fail
  refine (rlower_any a _ ha).mono ?_
  rintro e w1 ⟨rfl, hb1⟩
  have HB1 := Lib.hid hb1
  clear hb1
  go_wp2_with fail
  refine (rlower_any b _ hb).mono ?_
  rintro e w2 ⟨rfl, hb2⟩
  have HB2 := Lib.hid (HB1.out.trans (hb2.mono HB1.out.size))
  clear hb2
  unfold strV
  go_wp2
  go_ret
  refine ⟨?_, HB2.out⟩
  unfold sameB
  rw [← HE.out]
  rfl
end Go.Proofs.Ytknamddpflkifaa
