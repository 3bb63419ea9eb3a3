/- article: the parser's step that reads the header. Conditions: texts of at most 1000000 bytes; the cell of internal/bytealg.MaxLen holds some int. -/
import Derived.Test.YteecmcphbehfgaaGreatDoorB4
namespace Go.Proofs.YteecmcphbehfgaaGreatDoor
open Go.RowKit Go.Lib

/-- The length of the header, and whether an empty line ends it. -/
def hdS (l : List UInt8) : Nat × Bool := if Lib.hasPrefix l [10] = true then (0, true) else if Lib.index l [10, 10] = -1 then (l.length, false) else ((Lib.index l [10, 10]).toNat + 1, true)

/-- The world behind the first stores of header. -/
def HdW (p : Nat) (text head body : ByteArray) (found : Bool) (vf : Value) (w W : World) : Prop := Kept (fun k => k = p) w W ∧ APr p text head found vf body W ∧ W.heap[w.heap.size]? = some (.cells #[.int .i64 0, .int .i64 0] 77 (0, 0))

theorem HdW.below {p : Nat} {text head body : ByteArray} {found : Bool} {vf : Value} {w W W' : World} (h : HdW p text head body found vf w W) (hb : Below W.heap.size W W') : HdW p text head body found vf w W' :=
  ⟨h.1.trans (G := fun _ => False) (kept_of_below hb) (fun _ _ f => f.elim), (hb.block _ (lt_of_block h.2.1)).trans h.2.1, (hb.block _ (lt_of_block h.2.2)).trans h.2.2⟩
theorem HdW.max {p : Nat} {text head body : ByteArray} {found : Bool} {vf : Value} {w W : World} (h : HdW p text head body found vf w W) (hp : 0 < p) (hlt : p < w.heap.size) {m : Int} (hm : w.cell? ⟨0, 0, none⟩ = some (.int .i64 m)) : W.cell? ⟨0, 0, none⟩ = some (.int .i64 m) :=
  (h.1.cell (p := ⟨0, 0, none⟩) (by show 0 < w.heap.size; omega) (by show ¬ 0 = p; omega)).trans hm
theorem own_base {B B' sz n : Nat} {E : TypeId} {v : Value} {xs : List Value} {w : World} (h : w.ownsRow B E sz v n xs) (hB : B' ≤ B) : w.ownsRow B' E sz v n xs :=
  ⟨h.1, h.2.imp id (fun ⟨g, cap, cur, hv, hb, r⟩ => ⟨g, cap, cur, hv, Nat.le_trans hB hb, r⟩)⟩
theorem hdw_new {p : Nat} {text head body : ByteArray} {found : Bool} {vf : Value} {w X : World} (hk : Kept (fun k => k = p) w X) (hx : X.heap.size = w.heap.size) (hr : X.heap[p]? = some (.cells #[.string text, .string head, .bool found, vf, .string body] 73 (0, 0))) : HdW p text head body found vf w (X.alloc (.cells #[.int .i64 0, .int .i64 0] 77)) := by
  refine ⟨hk.alloc _, (Below.heap_alloc _ _ _ (lt_of_block hr)).trans hr, ?_⟩
  have := heap_alloc_new X (.cells #[.int .i64 0, .int .i64 0] 77)
  rw [hx] at this
  exact this
theorem set_size (w : World) (a : Addr) (v : Value) : (w.setCell a v).heap.size = w.heap.size := by simp [World.setCell]
def HdPost (p : Nat) (text body : ByteArray) (w : World) (e : Ending) (w' : World) : Prop :=
  ∃ v head, e = .returned (failV (parseS (text.data.toList.take (hdS text.data.toList).1)).2) ∧ APr p text head (hdS text.data.toList).2 v body w' ∧ head.data.toList = text.data.toList.take (hdS text.data.toList).1 ∧ head.size = (hdS text.data.toList).1 ∧
    w'.ownsRow w.heap.size 70 2 v (parseS (text.data.toList.take (hdS text.data.toList).1)).1.length (cellsF (parseS (text.data.toList.take (hdS text.data.toList).1)).1) ∧ Kept (fun k => k = p) w w'

set_option maxRecDepth 10000 in
set_option maxHeartbeats 2000000 in
theorem aheader_any {p : Nat} {text head body : ByteArray} {found : Bool} {vf : Value} {w : World} (h : APr p text head found vf body w) (hs : text.size ≤ 65536) (m : Int) (hm : w.cell? ⟨0, 0, none⟩ = some (.int .i64 m)) (hp : 0 < p) :
    Calls Tryz.prog 39 #[.pointer (some ⟨p, 0, none⟩)] w (HdPost p text body w) := by
  obtain ⟨⟨c0, c1, c2, c3, c4⟩, f0, f1, f2, f3, f4⟩ := h.cells
  have hlt := lt_of_block h
  have H := Lib.hid h
  clear h
  have hll : text.data.toList.length = text.size := by simp
  have HLL := Lib.hid hll
  clear hll
  have CI := Lib.hid (fun W h => Tryz.strings_Index text ⟨#[10, 10]⟩ m W (by omega) h)
  have CX := Lib.hid (Tryz.strings_HasPrefix text ⟨#[10]⟩)
  have HW0 := Lib.hid (hdw_new (p := p) (text := text) (head := text) (found := true) (vf := vf) (body := body) (((Kept.refl (fun k => k = p) w).setCell (p := ⟨p, 1, none⟩) (fun _ => rfl) (.string text)).setCell (p := ⟨p, 2, none⟩) (fun _ => rfl) (.bool true)) (by rw [set_size, set_size]) (heap_setCell_same _ _ 2 _ _ (.bool true) (heap_setCell_same w p 1 _ _ (.string text) H.out)))
  have CI0 := Lib.hid (CI.out _ (HW0.out.max hp hlt hm))
  go_enter Tryz.func39, Tryz.ntmps39
  go_wp2_with fail
  refine CI0.out.mono ?_
  rintro e w1 ⟨rfl, rfl⟩
  go_wp2_with fail
  refine (CX.out _).mono ?_
  rintro e w1 ⟨rfl, rfl⟩
  by_cases hpx : Lib.hasPrefix text.data.toList [10] = true
  · have HD : Hid (hdS text.data.toList = (0, true)) := Lib.hid (by unfold hdS; rw [if_pos hpx])
    have HW := Lib.hid (hdw_new (p := p) (text := text) (head := ⟨#[]⟩) (found := true) (vf := vf) (body := body) ((((Kept.refl (fun k => k = p) w).setCell (p := ⟨p, 1, none⟩) (fun _ => rfl) (.string text)).setCell (p := ⟨p, 2, none⟩) (fun _ => rfl) (.bool true)).setCell (p := ⟨p, 1, none⟩) (fun _ => rfl) (.string ⟨#[]⟩)) (by rw [set_size, set_size, set_size])
      (heap_setCell_same _ _ 1 _ _ (.string ⟨#[]⟩) (heap_setCell_same _ _ 2 _ _ (.bool true) (heap_setCell_same w p 1 _ _ (.string text) H.out))))
    have CP := Lib.hid (parse_any ⟨#[]⟩ _ m (by decide) (HW.out.max hp hlt hm))
    rw [show (⟨#[]⟩ : ByteArray).data.toList = [] from rfl] at CP
    have HSZ := HW.out.1.size
    go_wp2_with fail
    refine CP.out.mono ?_
    rintro e w1 ⟨v, rfl, hown, hb1⟩
    have HW1 := Lib.hid (HW.out.below hb1)
    have hown := own_base hown HSZ
    obtain ⟨Af, capf, rfl⟩ := own_shape2 hown
    obtain ⟨⟨d0, d1, d2, d3, d4⟩, e0, e1, e2, e3, e4⟩ := HW1.out.2.1.cells
    obtain ⟨⟨r0, r1⟩, g0, g1⟩ := two_facts HW1.out.2.2
    have HO := Lib.hid hown
    have hneb : (Value.slice Af (parseS []).1.length capf).ownBlock ≠ some p := own_ne hown HW1.out.2.1 (by decide)
    have hner : (Value.slice Af (parseS []).1.length capf).ownBlock ≠ some w.heap.size := own_ne hown HW1.out.2.2 (by decide)
    have HNB := Lib.hid hneb
    have HNR := Lib.hid hner
    obtain ⟨q, hq⟩ : ∃ q, (parseS []).2 = q := ⟨_, rfl⟩
    obtain ⟨nf, hnf⟩ : ∃ n, (parseS []).1.length = n := ⟨_, rfl⟩
    have HQ := Lib.hid hq
    have HNF := Lib.hid hnf
    rw [hq, hnf]
    rw [hnf] at HO HNB HNR
    have hr2 := heap_setCell_same _ _ 1 _ _ (.int .i64 q.2) (heap_setCell_same (w1.setCell ⟨p, 3, none⟩ (.slice Af nf capf)) w.heap.size 0 _ _ (.int .i64 q.1) ((Below.heap_setCell _ _ _ _ (by show w.heap.size ≠ p; omega)).trans HW1.out.2.2))
    have hr2 : ((((w1.setCell ⟨p, 3, none⟩ (.slice Af nf capf)).setCell ⟨w.heap.size, 0, none⟩ (.int .i64 q.1)).setCell ⟨w.heap.size, 1, none⟩ (.int .i64 q.2))).heap[w.heap.size]? = some (.cells #[.int .i64 q.1, .int .i64 q.2] 77 (0, 0)) := hr2
    have HR2 := Lib.hid hr2
    have HP2 := Lib.hid ((Below.heap_setCell _ _ (Value.int .i64 q.2) _ (show p ≠ (⟨w.heap.size, 1, none⟩ : Addr).block by show p ≠ w.heap.size; omega)).trans ((Below.heap_setCell _ _ (Value.int .i64 q.1) _ (show p ≠ (⟨w.heap.size, 0, none⟩ : Addr).block by show p ≠ w.heap.size; omega)).trans (heap_setCell_same w1 p 3 _ _ (.slice Af nf capf) HW1.out.2.1)))
    have HK2 := Lib.hid (((HW1.out.1.setCell (p := ⟨p, 3, none⟩) (fun _ => rfl) (.slice Af nf capf)).setCell (p := ⟨w.heap.size, 0, none⟩) (fun f => absurd f (Nat.lt_irrefl _)) (.int .i64 q.1)).setCell (p := ⟨w.heap.size, 1, none⟩) (fun f => absurd f (Nat.lt_irrefl _)) (.int .i64 q.2))
    have HO2 := Lib.hid (ownsRow_setCell_other (a := ⟨w.heap.size, 1, none⟩) (ownsRow_setCell_other (a := ⟨w.heap.size, 0, none⟩) (ownsRow_setCell_other (a := ⟨p, 3, none⟩) HO.out HNB.out (.slice Af nf capf)) HNR.out (.int .i64 q.1)) HNR.out (.int .i64 q.2))
    clear hb1 hown hneb hner hr2 hq hnf c0 c1 c2 c3 c4 f0 f1 f2 f3 f4
    go_wp2
    obtain ⟨⟨s0, s1⟩, _⟩ := two_facts HR2.out
    refine bodyPost_ret (v := .agg #[.int .i64 q.1, .int .i64 q.2]) (by simp [results, Tryz.f39, go_sem, s0, s1]) rfl ?_
    refine ⟨.slice Af nf capf, ⟨#[]⟩, ?_, ?_, ?_, ?_, ?_, HK2.out⟩
    · rw [HD.out, show text.data.toList.take (0, true).1 = [] from rfl, HQ.out]; rfl
    · rw [HD.out]; exact HP2.out
    · rw [HD.out]; exact rfl
    · rw [HD.out]; exact rfl
    · rw [HD.out, show text.data.toList.take (0, true).1 = [] from rfl, HNF.out]; exact HO2.out
  · have hpx' : Lib.hasPrefix text.data.toList [10] = false := by simpa using hpx
    have HPX := Lib.hid hpx
    clear hpx
    rcases Lib.indexB_cases text ⟨#[10, 10]⟩ with hix | ⟨i, hix, hroom⟩
    · rw [show Lib.index text.data.toList (⟨#[10, 10]⟩ : ByteArray).data.toList = _ from hix]
      have HD : Hid (hdS text.data.toList = (text.data.toList.length, false)) := Lib.hid (by unfold hdS; rw [if_neg HPX.out, if_pos hix])
      clear hix
      have HW := Lib.hid (hdw_new (p := p) (text := text) (head := text) (found := false) (vf := vf) (body := body) ((((Kept.refl (fun k => k = p) w).setCell (p := ⟨p, 1, none⟩) (fun _ => rfl) (.string text)).setCell (p := ⟨p, 2, none⟩) (fun _ => rfl) (.bool true)).setCell (p := ⟨p, 2, none⟩) (fun _ => rfl) (.bool false)) (by rw [set_size, set_size, set_size])
        (heap_setCell_same _ _ 2 _ _ (.bool false) (heap_setCell_same _ _ 2 _ _ (.bool true) (heap_setCell_same w p 1 _ _ (.string text) H.out))))
      have CP := Lib.hid (parse_any text _ m (by omega) (HW.out.max hp hlt hm))
      have HSZ := HW.out.1.size
      go_wp2_with fail
      refine CP.out.mono ?_
      rintro e w1 ⟨v, rfl, hown, hb1⟩
      have HW1 := Lib.hid (HW.out.below hb1)
      have hown := own_base hown HSZ
      obtain ⟨Af, capf, rfl⟩ := own_shape2 hown
      obtain ⟨⟨d0, d1, d2, d3, d4⟩, e0, e1, e2, e3, e4⟩ := HW1.out.2.1.cells
      obtain ⟨⟨r0, r1⟩, g0, g1⟩ := two_facts HW1.out.2.2
      have HO := Lib.hid hown
      have hneb : (Value.slice Af (parseS text.data.toList).1.length capf).ownBlock ≠ some p := own_ne hown HW1.out.2.1 (by decide)
      have hner : (Value.slice Af (parseS text.data.toList).1.length capf).ownBlock ≠ some w.heap.size := own_ne hown HW1.out.2.2 (by decide)
      have HNB := Lib.hid hneb
      have HNR := Lib.hid hner
      obtain ⟨q, hq⟩ : ∃ q, (parseS text.data.toList).2 = q := ⟨_, rfl⟩
      obtain ⟨nf, hnf⟩ : ∃ n, (parseS text.data.toList).1.length = n := ⟨_, rfl⟩
      have HQ := Lib.hid hq
      have HNF := Lib.hid hnf
      rw [hq, hnf]
      rw [hnf] at HO HNB HNR
      have hr2 := heap_setCell_same _ _ 1 _ _ (.int .i64 q.2) (heap_setCell_same (w1.setCell ⟨p, 3, none⟩ (.slice Af nf capf)) w.heap.size 0 _ _ (.int .i64 q.1) ((Below.heap_setCell _ _ _ _ (by show w.heap.size ≠ p; omega)).trans HW1.out.2.2))
      have hr2 : ((((w1.setCell ⟨p, 3, none⟩ (.slice Af nf capf)).setCell ⟨w.heap.size, 0, none⟩ (.int .i64 q.1)).setCell ⟨w.heap.size, 1, none⟩ (.int .i64 q.2))).heap[w.heap.size]? = some (.cells #[.int .i64 q.1, .int .i64 q.2] 77 (0, 0)) := hr2
      have HR2 := Lib.hid hr2
      have HP2 := Lib.hid ((Below.heap_setCell _ _ (Value.int .i64 q.2) _ (show p ≠ (⟨w.heap.size, 1, none⟩ : Addr).block by show p ≠ w.heap.size; omega)).trans ((Below.heap_setCell _ _ (Value.int .i64 q.1) _ (show p ≠ (⟨w.heap.size, 0, none⟩ : Addr).block by show p ≠ w.heap.size; omega)).trans (heap_setCell_same w1 p 3 _ _ (.slice Af nf capf) HW1.out.2.1)))
      have HK2 := Lib.hid (((HW1.out.1.setCell (p := ⟨p, 3, none⟩) (fun _ => rfl) (.slice Af nf capf)).setCell (p := ⟨w.heap.size, 0, none⟩) (fun f => absurd f (Nat.lt_irrefl _)) (.int .i64 q.1)).setCell (p := ⟨w.heap.size, 1, none⟩) (fun f => absurd f (Nat.lt_irrefl _)) (.int .i64 q.2))
      have HO2 := Lib.hid (ownsRow_setCell_other (a := ⟨w.heap.size, 1, none⟩) (ownsRow_setCell_other (a := ⟨w.heap.size, 0, none⟩) (ownsRow_setCell_other (a := ⟨p, 3, none⟩) HO.out HNB.out (.slice Af nf capf)) HNR.out (.int .i64 q.1)) HNR.out (.int .i64 q.2))
      clear hb1 hown hneb hner hr2 hq hnf c0 c1 c2 c3 c4 f0 f1 f2 f3 f4
      go_wp2
      obtain ⟨⟨s0, s1⟩, _⟩ := two_facts HR2.out
      refine bodyPost_ret (v := .agg #[.int .i64 q.1, .int .i64 q.2]) (by simp [results, Tryz.f39, go_sem, s0, s1]) rfl ?_
      refine ⟨.slice Af nf capf, text, ?_, ?_, ?_, ?_, ?_, HK2.out⟩
      · rw [HD.out, List.take_length, HQ.out]; rfl
      · rw [HD.out]; exact HP2.out
      · rw [HD.out]; exact List.take_length.symm
      · rw [HD.out]; exact HLL.out.symm
      · rw [HD.out, List.take_length, HNF.out]; exact HO2.out
    · have hroom : i + 2 ≤ text.size := hroom
      rw [show Lib.index text.data.toList (⟨#[10, 10]⟩ : ByteArray).data.toList = _ from hix]
      have HD : Hid (hdS text.data.toList = (i + 1, true)) := Lib.hid (by
        unfold hdS
        have e : Lib.index text.data.toList [10, 10] = i := hix
        rw [if_neg HPX.out, e, if_neg (by omega)]
        simp)
      have hext : (text.extract 0 (i + 1)).data.toList = text.data.toList.take (i + 1) := by
        rw [ByteArray.data_extract, Array.toList_extract]
        rfl
      have hexs : (text.extract 0 (i + 1)).size = i + 1 := by simp; omega
      have HX := Lib.hid hext
      clear hix hext
      have HW := Lib.hid (hdw_new (p := p) (text := text) (head := (text.extract 0 (i + 1))) (found := true) (vf := vf) (body := body) ((((Kept.refl (fun k => k = p) w).setCell (p := ⟨p, 1, none⟩) (fun _ => rfl) (.string text)).setCell (p := ⟨p, 2, none⟩) (fun _ => rfl) (.bool true)).setCell (p := ⟨p, 1, none⟩) (fun _ => rfl) (.string (text.extract 0 (i + 1)))) (by rw [set_size, set_size, set_size])
        (heap_setCell_same _ _ 1 _ _ (.string (text.extract 0 (i + 1))) (heap_setCell_same _ _ 2 _ _ (.bool true) (heap_setCell_same w p 1 _ _ (.string text) H.out))))
      have CP := Lib.hid (parse_any (text.extract 0 (i + 1)) _ m (by omega) (HW.out.max hp hlt hm))
      rw [HX.out] at CP
      have HSZ := HW.out.1.size
      go_wp2_with fail
      refine CP.out.mono ?_
      rintro e w1 ⟨v, rfl, hown, hb1⟩
      have HW1 := Lib.hid (HW.out.below hb1)
      have hown := own_base hown HSZ
      obtain ⟨Af, capf, rfl⟩ := own_shape2 hown
      obtain ⟨⟨d0, d1, d2, d3, d4⟩, e0, e1, e2, e3, e4⟩ := HW1.out.2.1.cells
      obtain ⟨⟨r0, r1⟩, g0, g1⟩ := two_facts HW1.out.2.2
      have HO := Lib.hid hown
      have hneb : (Value.slice Af (parseS (text.data.toList.take (i + 1))).1.length capf).ownBlock ≠ some p := own_ne hown HW1.out.2.1 (by decide)
      have hner : (Value.slice Af (parseS (text.data.toList.take (i + 1))).1.length capf).ownBlock ≠ some w.heap.size := own_ne hown HW1.out.2.2 (by decide)
      have HNB := Lib.hid hneb
      have HNR := Lib.hid hner
      obtain ⟨q, hq⟩ : ∃ q, (parseS (text.data.toList.take (i + 1))).2 = q := ⟨_, rfl⟩
      obtain ⟨nf, hnf⟩ : ∃ n, (parseS (text.data.toList.take (i + 1))).1.length = n := ⟨_, rfl⟩
      have HQ := Lib.hid hq
      have HNF := Lib.hid hnf
      rw [hq, hnf]
      rw [hnf] at HO HNB HNR
      have hr2 := heap_setCell_same _ _ 1 _ _ (.int .i64 q.2) (heap_setCell_same (w1.setCell ⟨p, 3, none⟩ (.slice Af nf capf)) w.heap.size 0 _ _ (.int .i64 q.1) ((Below.heap_setCell _ _ _ _ (by show w.heap.size ≠ p; omega)).trans HW1.out.2.2))
      have hr2 : ((((w1.setCell ⟨p, 3, none⟩ (.slice Af nf capf)).setCell ⟨w.heap.size, 0, none⟩ (.int .i64 q.1)).setCell ⟨w.heap.size, 1, none⟩ (.int .i64 q.2))).heap[w.heap.size]? = some (.cells #[.int .i64 q.1, .int .i64 q.2] 77 (0, 0)) := hr2
      have HR2 := Lib.hid hr2
      have HP2 := Lib.hid ((Below.heap_setCell _ _ (Value.int .i64 q.2) _ (show p ≠ (⟨w.heap.size, 1, none⟩ : Addr).block by show p ≠ w.heap.size; omega)).trans ((Below.heap_setCell _ _ (Value.int .i64 q.1) _ (show p ≠ (⟨w.heap.size, 0, none⟩ : Addr).block by show p ≠ w.heap.size; omega)).trans (heap_setCell_same w1 p 3 _ _ (.slice Af nf capf) HW1.out.2.1)))
      have HK2 := Lib.hid (((HW1.out.1.setCell (p := ⟨p, 3, none⟩) (fun _ => rfl) (.slice Af nf capf)).setCell (p := ⟨w.heap.size, 0, none⟩) (fun f => absurd f (Nat.lt_irrefl _)) (.int .i64 q.1)).setCell (p := ⟨w.heap.size, 1, none⟩) (fun f => absurd f (Nat.lt_irrefl _)) (.int .i64 q.2))
      have HO2 := Lib.hid (ownsRow_setCell_other (a := ⟨w.heap.size, 1, none⟩) (ownsRow_setCell_other (a := ⟨w.heap.size, 0, none⟩) (ownsRow_setCell_other (a := ⟨p, 3, none⟩) HO.out HNB.out (.slice Af nf capf)) HNR.out (.int .i64 q.1)) HNR.out (.int .i64 q.2))
      clear hb1 hown hneb hner hr2 hq hnf c0 c1 c2 c3 c4 f0 f1 f2 f3 f4
      go_wp2
      obtain ⟨⟨s0, s1⟩, _⟩ := two_facts HR2.out
      refine bodyPost_ret (v := .agg #[.int .i64 q.1, .int .i64 q.2]) (by simp [results, Tryz.f39, go_sem, s0, s1]) rfl ?_
      refine ⟨.slice Af nf capf, (text.extract 0 (i + 1)), ?_, ?_, ?_, ?_, ?_, HK2.out⟩
      · rw [HD.out, show text.data.toList.take (i + 1, true).1 = text.data.toList.take (i + 1) from rfl, HQ.out]; rfl
      · rw [HD.out]; exact HP2.out
      · rw [HD.out]; exact HX.out
      · rw [HD.out]; exact hexs
      · rw [HD.out, show text.data.toList.take (i + 1, true).1 = text.data.toList.take (i + 1) from rfl, HNF.out]; exact HO2.out
end Go.Proofs.YteecmcphbehfgaaGreatDoor
