/- article: Parse. Conditions: texts of at most 1000000 bytes; the cell of internal/bytealg.MaxLen holds some int. -/
import Derived.Test.YteecmcphbehfgaaGreatDoorB5
import Derived.Laws.EntriesVeiled
namespace Go.Proofs.YteecmcphbehfgaaGreatDoor
open Go.RowKit Go.Lib

/-- The article of a text: its fields, its body; the offset of the first error and its code. -/
def artS (l : List UInt8) : (List (List UInt8 × List UInt8) × List UInt8) × (Int × Int) :=
  if (lenF l).2 ≠ 0 then (([], []), lenF l) else
  if (parseS (l.take (hdS l).1)).2.2 ≠ 0 then (([], []), (parseS (l.take (hdS l).1)).2) else
  if (sepF (hdS l).2 l.length).2 ≠ 0 then (([], []), sepF (hdS l).2 l.length) else
  if (bodF l (hdS l).1).2 ≠ 0 then (([], []), bodF l (hdS l).1) else (((parseS (l.take (hdS l).1)).1, l.drop ((hdS l).1 + 1)), (0, 0))
def ArtPost (l : List UInt8) (w : World) (e : Ending) (w' : World) : Prop :=
  ∃ v, e = .returned (.tuple #[.agg #[v, strV (artS l).1.2], .int .i64 (artS l).2.1, .int .i64 (artS l).2.2]) ∧ w'.ownsRow w.heap.size 70 2 v (artS l).1.1.length (cellsF (artS l).1.1) ∧ Below w.heap.size w w'
theorem hasPrefix_nl {l : List UInt8} (h : Lib.hasPrefix l [10] = true) : 0 < l.length := by
  cases l with
  | nil => exact absurd h (by decide)
  | cons c r => simp
theorem hdS_lt {l : List UInt8} (h : (hdS l).2 = true) : (hdS l).1 < l.length := by
  unfold hdS at h ⊢
  by_cases h1 : Lib.hasPrefix l [10] = true
  · rw [if_pos h1]; exact hasPrefix_nl h1
  · rw [if_neg h1] at h ⊢
    by_cases h2 : Lib.index l [10, 10] = -1
    · rw [if_pos h2] at h; cases h
    · rw [if_neg h2]
      rcases Lib.indexB_cases (bsOf l) ⟨#[10, 10]⟩ with hix | ⟨i, hix, hroom⟩
      · exact absurd (by have := hix; unfold Lib.indexB at this; rw [bsOf_data] at this; exact this) h2
      · have e : Lib.index l [10, 10] = i := by have := hix; unfold Lib.indexB at this; rw [bsOf_data] at this; exact this
        have hr : i + 2 ≤ l.length := by rw [bsOf_size] at hroom; exact hroom
        rw [e]
        show (i : Int).toNat + 1 < _
        simp
        omega
theorem ret_at {a b : Int} {l : List UInt8} (h : (artS l).2 = (a, b)) : (artS l).2.1 = a ∧ (artS l).2.2 = b := by rw [h]; exact ⟨rfl, rfl⟩

def stepsA (p : Nat) : Array Value := #[.func (.func 38) #[.pointer (some ⟨p, 0, none⟩)] #[], .func (.func 39) #[.pointer (some ⟨p, 0, none⟩)] #[], .func (.func 40) #[.pointer (some ⟨p, 0, none⟩)] #[], .func (.func 41) #[.pointer (some ⟨p, 0, none⟩)] #[]]
/-- What holds at the head of a round of Parse. -/
structure ARel (text : ByteArray) (w : World) (k : Nat) (head : ByteArray) (found : Bool) (vf : Value) (body : ByteArray) (wr : World) : Prop where
  pr : APr (w.heap.size + 1) text head found vf body wr
  fb : wr.heap[w.heap.size + 1 + 1]? = some (.cells (stepsA (w.heap.size + 1)) 74 (0, 0))
  rs : wr.heap[w.heap.size]? = some (.cells #[.slice none 0 0, .string ⟨#[]⟩] 32 (0, 0))
  bl : Below w.heap.size w wr
  c1 : 1 ≤ k → text.size ≤ 65536
  c2 : 2 ≤ k → head.size = (hdS text.data.toList).1 ∧ found = (hdS text.data.toList).2 ∧ (parseS (text.data.toList.take (hdS text.data.toList).1)).2.2 = 0 ∧ wr.ownsRow w.heap.size 70 2 vf (parseS (text.data.toList.take (hdS text.data.toList).1)).1.length (cellsF (parseS (text.data.toList.take (hdS text.data.toList).1)).1)
  c3 : 3 ≤ k → (hdS text.data.toList).2 = true
  c4 : 4 ≤ k → (bodF text.data.toList (hdS text.data.toList).1).2 = 0 ∧ body.data.toList = text.data.toList.drop ((hdS text.data.toList).1 + 1)
theorem ARel.fcell {text : ByteArray} {w : World} {k : Nat} {head : ByteArray} {found : Bool} {vf : Value} {body : ByteArray} {wr : World} (h : ARel text w k head found vf body wr) (j : Nat) : wr.cell? ⟨w.heap.size + 1 + 1, j, none⟩ = (stepsA (w.heap.size + 1))[j]? := Lib.cell_of_heap h.fb j

set_option maxRecDepth 100000 in
set_option maxHeartbeats 4000000 in
theorem aparse_any (text : ByteArray) (w : World) (m : Int) (hs : text.size ≤ 1000000) (hm : w.cell? ⟨0, 0, none⟩ = some (.int .i64 m)) :
    Calls Tryz.prog 15 #[.string text] w (ArtPost text.data.toList w) := by
  have hll : text.data.toList.length = text.size := by simp
  have h0 : 0 < w.heap.size := by
    rcases Nat.eq_zero_or_pos w.heap.size with h | h
    · simp [World.cell?, Array.getElem?_eq_none (show w.heap.size ≤ 0 by omega)] at hm
    · exact h
  have HLL := Lib.hid hll
  have HM := Lib.hid hm
  clear hll hm
  go_enter Tryz.func15, Tryz.ntmps15
  have hst : ARel text w 0 ⟨#[]⟩ false (.slice none 0 0) ⟨#[]⟩ (((w.alloc (.cells #[.slice none 0 0, .string ⟨#[]⟩] 32)).alloc (.cells #[.string text, .string ⟨#[]⟩, .bool false, .slice none 0 0, .string ⟨#[]⟩] 73)).alloc (.cells (stepsA (w.heap.size + 1)) 74)) := by
    have a1 := heap_alloc_new w (.cells #[.slice none 0 0, .string ⟨#[]⟩] 32)
    have a2 := heap_alloc_new (w.alloc (.cells #[.slice none 0 0, .string ⟨#[]⟩] 32)) (.cells #[.string text, .string ⟨#[]⟩, .bool false, .slice none 0 0, .string ⟨#[]⟩] 73)
    have a3 := heap_alloc_new ((w.alloc (.cells #[.slice none 0 0, .string ⟨#[]⟩] 32)).alloc (.cells #[.string text, .string ⟨#[]⟩, .bool false, .slice none 0 0, .string ⟨#[]⟩] 73)) (.cells (stepsA (w.heap.size + 1)) 74)
    rw [World.size_alloc] at a2
    rw [World.size_alloc, World.size_alloc] at a3
    exact { pr := (Below.heap_alloc _ _ _ (by simp)).trans a2, fb := a3, rs := (Below.heap_alloc _ _ _ (by simp; omega)).trans ((Below.heap_alloc _ _ _ (by simp)).trans a1), bl := (((Below.refl _ _).alloc (Nat.le_refl _) _).alloc (by simp) _).alloc (by simp; omega) _, c1 := by omega, c2 := by omega, c3 := by omega, c4 := by omega }
  have HST := Lib.hid hst
  clear hst
  go_wp2
  go_loopw [22] (fun v wr => ∃ (k : Nat) (head : ByteArray) (found : Bool) (vf : Value) (body : ByteArray), k ≤ 4 ∧ v = .int .i64 k ∧ ARel text w k head found vf body wr) (fun v _ => 4 - (RowKit.intOf v).toNat)
  case atStart => exact ⟨0, _, _, _, _, by omega, rfl, HST.out⟩
  case round =>
    clear HST
    obtain ⟨k, head, found, vf, body, hk, rfl, hR⟩ := hrel
    have q0 := hR.fcell 0
    have q1 := hR.fcell 1
    have q2 := hR.fcell 2
    have q3 := hR.fcell 3
    have hsz := hR.bl.size
    have hlr := lt_of_block hR.rs
    have hlf := lt_of_block hR.fb
    have HR := Lib.hid hR
    clear hR
    rcases (by omega : k = 0 ∨ k = 1 ∨ k = 2 ∨ k = 3 ∨ k = 4) with rfl | rfl | rfl | rfl | rfl
    · replace q0 : wr.cell? ⟨w.heap.size + 1 + 1, 0, none⟩ = some (.func (.func 38) #[.pointer (some ⟨w.heap.size + 1, 0, none⟩)] #[]) := q0
      clear q1 q2 q3
      have CS := Lib.hid (alen_any HR.out.pr hs)
      go_wp2_with fail
      refine CS.out.mono ?_
      rintro e w1 ⟨rfl, hb1⟩
      have hk1 : Kept (fun k => k = w.heap.size + 1) wr w1 := (kept_of_below hb1).mono (fun _ _ f => f.elim)
      obtain ⟨q, hq⟩ : ∃ q, lenF text.data.toList = q := ⟨_, rfl⟩
      rw [hq]
      have HQ := Lib.hid hq
      have hr1 : w1.heap[w.heap.size]? = some (.cells #[.slice none 0 0, .string ⟨#[]⟩] 32 (0, 0)) := (hk1.block _ hlr (by omega)).trans HR.out.rs
      have HB1 := Lib.hid (HR.out.bl.trans (hk1.toBelow (fun k e => by have e' : k = w.heap.size + 1 := e; omega) hsz))
      have HR1 := Lib.hid hr1
      have hlt1 := lt_of_block hr1
      have HK1 := Lib.hid hk1
      clear hq q0 hr1 hk1
      unfold failV
      by_cases hz : q.2 = 0
      · have hzb : (q.2 != 0) = false := by simp [hz]
        have HNEW : Hid (ARel text w 1 head found vf body (w1.alloc (.cells #[.int .i64 q.1, .int .i64 0] 77))) := Lib.hid (by
          have hR := HR.out
          have hkA := HK1.out.alloc (.cells #[.int .i64 q.1, .int .i64 0] 77)
          have hfb := (hkA.block _ (lt_of_block hR.fb) (by omega)).trans hR.fb
          have hrs := (hkA.block _ (lt_of_block hR.rs) (by omega)).trans hR.rs
          have hbl := hR.bl.trans (hkA.toBelow (fun k e => by have e' : k = w.heap.size + 1 := e; omega) hsz)
          refine { pr := ((hb1.alloc hb1.size _).block _ (lt_of_block hR.pr)).trans hR.pr, fb := hfb, rs := hrs, bl := hbl, c1 := fun _ => ?_, c2 := by omega, c3 := by omega, c4 := by omega }
          have := HQ.out
          unfold lenF at this
          by_cases hb : 65536 < text.data.toList.length
          · rw [if_pos hb] at this; rw [← this] at hz; exact absurd hz (by decide)
          · rw [HLL.out] at hb; omega)
        clear HK1
        go_wp2
        go_roundw
        case rel => exact ⟨1, _, _, _, _, by omega, by first | rfl | go_num, HNEW.out⟩
        case measure => simp [RowKit.intOf]
      · have hzb : (q.2 != 0) = true := by simp [hz]
        have HE : Hid (artS text.data.toList = (([], []), q)) := Lib.hid (by
          unfold artS; rw [HQ.out, if_pos hz])
        clear HK1
        go_wp2_with fail
        have hr2 : (w1.alloc (.cells #[.int .i64 q.1, .int .i64 q.2] 77)).heap[w.heap.size]? = some (.cells #[.slice none 0 0, .string ⟨#[]⟩] 32 (0, 0)) := (Below.heap_alloc _ _ _ hlt1).trans HR1.out
        have HB2 := Lib.hid (HB1.out.alloc HB1.out.size (.cells #[.int .i64 q.1, .int .i64 q.2] 77))
        have hf2 := heap_alloc_new w1 (.cells #[.int .i64 q.1, .int .i64 q.2] 77)
        generalize w1.alloc (.cells #[.int .i64 q.1, .int .i64 q.2] 77) = w2 at *
        obtain ⟨⟨r0, r1⟩, g0, g1⟩ := two_facts hr2
        obtain ⟨⟨s0, s1⟩, t0, t1⟩ := two_facts hf2
        clear hr2 hf2
        go_region
        all_goals go_wp2
        all_goals refine bodyPost_ret (v := .tuple #[.agg #[.slice none 0 0, .string ⟨#[]⟩], .int .i64 q.1, .int .i64 q.2]) (by simp [results, Tryz.f15, go_sem, r0, r1]) rfl ?_
        all_goals exact ⟨.slice none 0 0, by rw [HE.out]; rfl, by rw [HE.out]; exact ⟨rfl, .inl ⟨rfl, rfl⟩⟩, ((HB2.out.setCell (p := ⟨w.heap.size, 0, none⟩) (Nat.le_refl _) _).setCell (p := ⟨w.heap.size, 1, none⟩) (Nat.le_refl _) _).drew⟩
    · replace q1 : wr.cell? ⟨w.heap.size + 1 + 1, 1, none⟩ = some (.func (.func 39) #[.pointer (some ⟨w.heap.size + 1, 0, none⟩)] #[]) := q1
      clear q0 q2 q3
      have h65 := HR.out.c1 (by omega)
      have hmr := ((bcell HR.out.bl).1 0 0 h0).trans HM.out
      have CS := Lib.hid (aheader_any HR.out.pr h65 m hmr (by omega))
      go_wp2_with fail
      refine CS.out.mono ?_
      rintro e w1 ⟨v1, head1, rfl, hp1, hl1, hs1, ho1, hk1⟩
      clear hmr
      obtain ⟨q, hq⟩ : ∃ q, (parseS (text.data.toList.take (hdS text.data.toList).1)).2 = q := ⟨_, rfl⟩
      rw [hq]
      have HQ := Lib.hid hq
      have hr1 : w1.heap[w.heap.size]? = some (.cells #[.slice none 0 0, .string ⟨#[]⟩] 32 (0, 0)) := (hk1.block _ hlr (by omega)).trans HR.out.rs
      have HB1 := Lib.hid (HR.out.bl.trans (hk1.toBelow (fun k e => by have e' : k = w.heap.size + 1 := e; omega) hsz))
      have HR1 := Lib.hid hr1
      have hlt1 := lt_of_block hr1
      have HK1 := Lib.hid hk1
      clear hq q1 hr1 hk1
      unfold failV
      by_cases hz : q.2 = 0
      · have hzb : (q.2 != 0) = false := by simp [hz]
        have HNEW : Hid (ARel text w 2 head1 (hdS text.data.toList).2 v1 body (w1.alloc (.cells #[.int .i64 q.1, .int .i64 0] 77))) := Lib.hid (by
          have hR := HR.out
          have hkA := HK1.out.alloc (.cells #[.int .i64 q.1, .int .i64 0] 77)
          have hfb := (hkA.block _ (lt_of_block hR.fb) (by omega)).trans hR.fb
          have hrs := (hkA.block _ (lt_of_block hR.rs) (by omega)).trans hR.rs
          have hbl := hR.bl.trans (hkA.toBelow (fun k e => by have e' : k = w.heap.size + 1 := e; omega) hsz)
          have hp2 := (Below.heap_alloc _ (.cells #[.int .i64 q.1, .int .i64 0] 77) _ (lt_of_block hp1)).trans hp1
          refine { pr := hp2, fb := hfb, rs := hrs, bl := hbl, c1 := fun _ => h65, c2 := fun _ => ⟨hs1, rfl, ?_, ?_⟩, c3 := by omega, c4 := by omega }
          · rw [HQ.out]; exact hz
          · exact own_kept (own_base ho1 hsz) ((Kept.refl (fun _ => False) w1).alloc _) (fun _ _ f => f))
        clear HK1
        go_wp2
        go_roundw
        case rel => exact ⟨2, _, _, _, _, by omega, by first | rfl | go_num, HNEW.out⟩
        case measure => simp [RowKit.intOf]
      · have hzb : (q.2 != 0) = true := by simp [hz]
        have HE : Hid (artS text.data.toList = (([], []), q)) := Lib.hid (by
          have hl : (lenF text.data.toList).2 = 0 := by unfold lenF; rw [if_neg (by rw [HLL.out]; have := HR.out.c1 (by omega); omega)]
          unfold artS; rw [if_neg (by rw [hl]; exact fun f => f rfl), HQ.out, if_pos hz])
        clear HK1
        go_wp2_with fail
        have hr2 : (w1.alloc (.cells #[.int .i64 q.1, .int .i64 q.2] 77)).heap[w.heap.size]? = some (.cells #[.slice none 0 0, .string ⟨#[]⟩] 32 (0, 0)) := (Below.heap_alloc _ _ _ hlt1).trans HR1.out
        have HB2 := Lib.hid (HB1.out.alloc HB1.out.size (.cells #[.int .i64 q.1, .int .i64 q.2] 77))
        have hf2 := heap_alloc_new w1 (.cells #[.int .i64 q.1, .int .i64 q.2] 77)
        generalize w1.alloc (.cells #[.int .i64 q.1, .int .i64 q.2] 77) = w2 at *
        obtain ⟨⟨r0, r1⟩, g0, g1⟩ := two_facts hr2
        obtain ⟨⟨s0, s1⟩, t0, t1⟩ := two_facts hf2
        clear hr2 hf2
        go_region
        all_goals go_wp2
        all_goals refine bodyPost_ret (v := .tuple #[.agg #[.slice none 0 0, .string ⟨#[]⟩], .int .i64 q.1, .int .i64 q.2]) (by simp [results, Tryz.f15, go_sem, r0, r1]) rfl ?_
        all_goals exact ⟨.slice none 0 0, by rw [HE.out]; rfl, by rw [HE.out]; exact ⟨rfl, .inl ⟨rfl, rfl⟩⟩, ((HB2.out.setCell (p := ⟨w.heap.size, 0, none⟩) (Nat.le_refl _) _).setCell (p := ⟨w.heap.size, 1, none⟩) (Nat.le_refl _) _).drew⟩
    · replace q2 : wr.cell? ⟨w.heap.size + 1 + 1, 2, none⟩ = some (.func (.func 40) #[.pointer (some ⟨w.heap.size + 1, 0, none⟩)] #[]) := q2
      clear q0 q1 q3
      have hc2 := HR.out.c2 (by omega)
      have CS := Lib.hid (asep_any HR.out.pr hs)
      go_wp2_with fail
      refine CS.out.mono ?_
      rintro e w1 ⟨rfl, hb1⟩
      rw [hc2.2.1]
      have hk1 : Kept (fun k => k = w.heap.size + 1) wr w1 := (kept_of_below hb1).mono (fun _ _ f => f.elim)
      obtain ⟨q, hq⟩ : ∃ q, sepF (hdS text.data.toList).2 text.size = q := ⟨_, rfl⟩
      rw [hq]
      have HQ := Lib.hid hq
      have hr1 : w1.heap[w.heap.size]? = some (.cells #[.slice none 0 0, .string ⟨#[]⟩] 32 (0, 0)) := (hk1.block _ hlr (by omega)).trans HR.out.rs
      have HB1 := Lib.hid (HR.out.bl.trans (hk1.toBelow (fun k e => by have e' : k = w.heap.size + 1 := e; omega) hsz))
      have HR1 := Lib.hid hr1
      have hlt1 := lt_of_block hr1
      have HK1 := Lib.hid hk1
      clear hq q2 hr1 hk1
      unfold failV
      by_cases hz : q.2 = 0
      · have hzb : (q.2 != 0) = false := by simp [hz]
        have HNEW : Hid (ARel text w 3 head found vf body (w1.alloc (.cells #[.int .i64 q.1, .int .i64 0] 77))) := Lib.hid (by
          have hR := HR.out
          have hkA := HK1.out.alloc (.cells #[.int .i64 q.1, .int .i64 0] 77)
          have hfb := (hkA.block _ (lt_of_block hR.fb) (by omega)).trans hR.fb
          have hrs := (hkA.block _ (lt_of_block hR.rs) (by omega)).trans hR.rs
          have hbl := hR.bl.trans (hkA.toBelow (fun k e => by have e' : k = w.heap.size + 1 := e; omega) hsz)
          refine { pr := ((hb1.alloc hb1.size _).block _ (lt_of_block hR.pr)).trans hR.pr, fb := hfb, rs := hrs, bl := hbl, c1 := fun _ => hR.c1 (by omega), c2 := fun _ => ⟨hc2.1, hc2.2.1, hc2.2.2.1, ?_⟩, c3 := fun _ => ?_, c4 := by omega }
          · exact own_kept hc2.2.2.2 (kept_of_below (hb1.alloc hb1.size _)) (fun _ _ f => f)
          · have := HQ.out
            unfold sepF at this
            cases hh : (hdS text.data.toList).2
            · rw [hh] at this; rw [← this] at hz; exact absurd hz (by show ¬ (4 : Int) = 0; decide)
            · rfl)
        clear HK1
        go_wp2
        go_roundw
        case rel => exact ⟨3, _, _, _, _, by omega, by first | rfl | go_num, HNEW.out⟩
        case measure => simp [RowKit.intOf]
      · have hzb : (q.2 != 0) = true := by simp [hz]
        have HE : Hid (artS text.data.toList = (([], []), q)) := Lib.hid (by
          have hl : (lenF text.data.toList).2 = 0 := by unfold lenF; rw [if_neg (by rw [HLL.out]; have := HR.out.c1 (by omega); omega)]
          unfold artS; rw [if_neg (by rw [hl]; exact fun f => f rfl), if_neg (by rw [hc2.2.2.1]; exact fun f => f rfl), HLL.out, HQ.out, if_pos hz])
        clear HK1
        go_wp2_with fail
        have hr2 : (w1.alloc (.cells #[.int .i64 q.1, .int .i64 q.2] 77)).heap[w.heap.size]? = some (.cells #[.slice none 0 0, .string ⟨#[]⟩] 32 (0, 0)) := (Below.heap_alloc _ _ _ hlt1).trans HR1.out
        have HB2 := Lib.hid (HB1.out.alloc HB1.out.size (.cells #[.int .i64 q.1, .int .i64 q.2] 77))
        have hf2 := heap_alloc_new w1 (.cells #[.int .i64 q.1, .int .i64 q.2] 77)
        generalize w1.alloc (.cells #[.int .i64 q.1, .int .i64 q.2] 77) = w2 at *
        obtain ⟨⟨r0, r1⟩, g0, g1⟩ := two_facts hr2
        obtain ⟨⟨s0, s1⟩, t0, t1⟩ := two_facts hf2
        clear hr2 hf2
        go_region
        all_goals go_wp2
        all_goals refine bodyPost_ret (v := .tuple #[.agg #[.slice none 0 0, .string ⟨#[]⟩], .int .i64 q.1, .int .i64 q.2]) (by simp [results, Tryz.f15, go_sem, r0, r1]) rfl ?_
        all_goals exact ⟨.slice none 0 0, by rw [HE.out]; rfl, by rw [HE.out]; exact ⟨rfl, .inl ⟨rfl, rfl⟩⟩, ((HB2.out.setCell (p := ⟨w.heap.size, 0, none⟩) (Nat.le_refl _) _).setCell (p := ⟨w.heap.size, 1, none⟩) (Nat.le_refl _) _).drew⟩
    · replace q3 : wr.cell? ⟨w.heap.size + 1 + 1, 3, none⟩ = some (.func (.func 41) #[.pointer (some ⟨w.heap.size + 1, 0, none⟩)] #[]) := q3
      clear q0 q1 q2
      have hc2 := HR.out.c2 (by omega)
      have hc3 := HR.out.c3 (by omega)
      have hhd := hdS_lt hc3
      rw [HLL.out, ← hc2.1] at hhd
      have CS := Lib.hid (abody_any HR.out.pr hs hhd)
      go_wp2_with fail
      refine CS.out.mono ?_
      rintro e w1 ⟨rfl, hp1, hk1⟩
      rw [hc2.1] at hp1 ⊢
      obtain ⟨q, hq⟩ : ∃ q, bodF text.data.toList (hdS text.data.toList).1 = q := ⟨_, rfl⟩
      rw [hq]
      have HQ := Lib.hid hq
      have hr1 : w1.heap[w.heap.size]? = some (.cells #[.slice none 0 0, .string ⟨#[]⟩] 32 (0, 0)) := (hk1.block _ hlr (by omega)).trans HR.out.rs
      have HB1 := Lib.hid (HR.out.bl.trans (hk1.toBelow (fun k e => by have e' : k = w.heap.size + 1 := e; omega) hsz))
      have HR1 := Lib.hid hr1
      have hlt1 := lt_of_block hr1
      have HK1 := Lib.hid hk1
      clear hq q3 hr1 hk1
      unfold failV
      by_cases hz : q.2 = 0
      · have hzb : (q.2 != 0) = false := by simp [hz]
        have HNEW : Hid (ARel text w 4 head found vf (text.extract ((hdS text.data.toList).1 + 1) text.size) (w1.alloc (.cells #[.int .i64 q.1, .int .i64 0] 77))) := Lib.hid (by
          have hR := HR.out
          have hkA := HK1.out.alloc (.cells #[.int .i64 q.1, .int .i64 0] 77)
          have hfb := (hkA.block _ (lt_of_block hR.fb) (by omega)).trans hR.fb
          have hrs := (hkA.block _ (lt_of_block hR.rs) (by omega)).trans hR.rs
          have hbl := hR.bl.trans (hkA.toBelow (fun k e => by have e' : k = w.heap.size + 1 := e; omega) hsz)
          have hp2 := (Below.heap_alloc _ (.cells #[.int .i64 q.1, .int .i64 0] 77) _ (lt_of_block hp1)).trans hp1
          have hnp : vf.ownBlock ≠ some (w.heap.size + 1) := own_ne hc2.2.2.2 hR.pr (by decide)
          refine { pr := hp2, fb := hfb, rs := hrs, bl := hbl, c1 := fun _ => hR.c1 (by omega), c2 := fun _ => ⟨hc2.1, hc2.2.1, hc2.2.2.1, ?_⟩, c3 := fun _ => hc3, c4 := fun _ => ⟨by rw [HQ.out]; exact hz, ext_drop _ _⟩ }
          exact own_kept hc2.2.2.2 hkA (fun k e f => hnp (by have f' : k = w.heap.size + 1 := f; rw [e, f'])))
        clear HK1
        go_wp2
        go_roundw
        case rel => exact ⟨4, _, _, _, _, by omega, by first | rfl | go_num, HNEW.out⟩
        case measure => simp [RowKit.intOf]
      · have hzb : (q.2 != 0) = true := by simp [hz]
        have HE : Hid (artS text.data.toList = (([], []), q)) := Lib.hid (by
          have hl : (lenF text.data.toList).2 = 0 := by unfold lenF; rw [if_neg (by rw [HLL.out]; have := HR.out.c1 (by omega); omega)]
          have hs' : (sepF (hdS text.data.toList).2 text.data.toList.length).2 = 0 := by unfold sepF; rw [hc3]; rfl
          unfold artS; rw [if_neg (by rw [hl]; exact fun f => f rfl), if_neg (by rw [hc2.2.2.1]; exact fun f => f rfl), if_neg (by rw [hs']; exact fun f => f rfl), HQ.out, if_pos hz])
        clear HK1
        go_wp2_with fail
        have hr2 : (w1.alloc (.cells #[.int .i64 q.1, .int .i64 q.2] 77)).heap[w.heap.size]? = some (.cells #[.slice none 0 0, .string ⟨#[]⟩] 32 (0, 0)) := (Below.heap_alloc _ _ _ hlt1).trans HR1.out
        have HB2 := Lib.hid (HB1.out.alloc HB1.out.size (.cells #[.int .i64 q.1, .int .i64 q.2] 77))
        have hf2 := heap_alloc_new w1 (.cells #[.int .i64 q.1, .int .i64 q.2] 77)
        generalize w1.alloc (.cells #[.int .i64 q.1, .int .i64 q.2] 77) = w2 at *
        obtain ⟨⟨r0, r1⟩, g0, g1⟩ := two_facts hr2
        obtain ⟨⟨s0, s1⟩, t0, t1⟩ := two_facts hf2
        clear hr2 hf2
        go_region
        all_goals go_wp2
        all_goals refine bodyPost_ret (v := .tuple #[.agg #[.slice none 0 0, .string ⟨#[]⟩], .int .i64 q.1, .int .i64 q.2]) (by simp [results, Tryz.f15, go_sem, r0, r1]) rfl ?_
        all_goals exact ⟨.slice none 0 0, by rw [HE.out]; rfl, by rw [HE.out]; exact ⟨rfl, .inl ⟨rfl, rfl⟩⟩, ((HB2.out.setCell (p := ⟨w.heap.size, 0, none⟩) (Nat.le_refl _) _).setCell (p := ⟨w.heap.size, 1, none⟩) (Nat.le_refl _) _).drew⟩
    · obtain ⟨⟨d0, d1, d2, d3, d4⟩, _⟩ := HR.out.pr.cells
      obtain ⟨Af, capf, rfl⟩ := own_shape2 (HR.out.c2 (by omega)).2.2.2
      obtain ⟨⟨r0, r1⟩, g0, g1⟩ := two_facts HR.out.rs
      clear q0 q1 q2 q3
      have hR := HR.out
      obtain ⟨e1, e2, e3, e4⟩ := hR.c2 (by omega)
      obtain ⟨e5, e6⟩ := hR.c4 (by omega)
      have e7 := hR.c3 (by omega)
      have e8 := hR.c1 (by omega)
      obtain ⟨nf, hnf⟩ : ∃ n, (parseS (text.data.toList.take (hdS text.data.toList).1)).1.length = n := ⟨_, rfl⟩
      have HNF := Lib.hid hnf
      have HE : Hid (artS text.data.toList = (((parseS (text.data.toList.take (hdS text.data.toList).1)).1, body.data.toList), (0, 0))) := Lib.hid (by
        unfold artS
        have hl : (lenF text.data.toList).2 = 0 := by unfold lenF; rw [if_neg (by rw [HLL.out]; omega)]
        have hs : (sepF (hdS text.data.toList).2 text.data.toList.length).2 = 0 := by unfold sepF; rw [e7]; rfl
        rw [if_neg (by rw [hl]; exact fun f => f rfl), if_neg (by rw [e3]; exact fun f => f rfl), if_neg (by rw [hs]; exact fun f => f rfl), if_neg (by rw [e5]; exact fun f => f rfl), e6])
      have HO := Lib.hid e4
      have hner := own_ne e4 hR.rs (by decide)
      have HNE := Lib.hid hner
      rw [hnf] at HO HNE
      rw [hnf] at d3
      have hr2 : ((wr.setCell ⟨w.heap.size, 0, none⟩ (.slice Af nf capf)).setCell ⟨w.heap.size, 1, none⟩ (.string body)).heap[w.heap.size]? = some (.cells #[.slice Af nf capf, .string body] 32 (0, 0)) :=
        heap_setCell_same _ _ 1 _ _ (.string body) (heap_setCell_same wr w.heap.size 0 _ _ (.slice Af nf capf) hR.rs)
      have HR2 := Lib.hid hr2
      have HO2 := Lib.hid (ownsRow_setCell_other (a := ⟨w.heap.size, 1, none⟩) (ownsRow_setCell_other (a := ⟨w.heap.size, 0, none⟩) HO.out HNE.out (.slice Af nf capf)) HNE.out (.string body))
      have HB2 := Lib.hid ((hR.bl.setCell (p := ⟨w.heap.size, 0, none⟩) (Nat.le_refl _) (.slice Af nf capf)).setCell (p := ⟨w.heap.size, 1, none⟩) (Nat.le_refl _) (.string body))
      clear hR e1 e2 e3 e4 e5 e6 e7 e8 hnf hner hr2
      go_wp2
      obtain ⟨⟨s0, s1⟩, _⟩ := two_facts HR2.out
      refine bodyPost_ret (v := .tuple #[.agg #[.slice Af nf capf, .string body], .int .i64 0, .int .i64 0]) (by simp [results, Tryz.f15, go_sem, s0, s1]) rfl ?_
      refine ⟨.slice Af nf capf, ?_, ?_, HB2.out⟩
      · rw [HE.out]
        show _ = Ending.returned (.tuple #[.agg #[_, strV body.data.toList], _, _])
        unfold strV
        rw [bsOf_eta]
      · rw [HE.out]; show World.ownsRow _ _ _ _ _ (parseS (text.data.toList.take (hdS text.data.toList).1)).1.length _; rw [HNF.out]; exact HO2.out
end Go.Proofs.YteecmcphbehfgaaGreatDoor
