/- Same and Print of the document over this translation.
   Conditions: texts of at most 1000000 bytes. -/
import Derived.Test.YtknamddpflkifaaG3
namespace Go.Proofs.Ytknamddpflkifaa
open Go.RowKit Go.Lib

theorem toList_ne {a b : List UInt8} (h : a ≠ b) : ¬ (bsOf a).toList = (bsOf b).toList := by
  rw [ByteArray.toList_eq, ByteArray.toList_eq, bsOf_data, bsOf_data]
  exact h
theorem drewN_below {B : Nat} {w w' : World} (n : Nat) (h : Below B w w') : Below B w (w'.drewN n) := by
  exact ⟨h.os, h.tape, h.output, h.size, h.block⟩
/-- What == says of two fields of the document. -/
@[local go_sem] theorem eqF (a b c d : ByteArray) (w : World) : (Op.equalIn 10000 25 (.agg #[.string a, .string b]) (.agg #[.string c, .string d])).run Try.prog w = .ok (a.toList == c.toList && b.toList == d.toList) w := by
  have u3 := Try.underlying9
  have hS : Try.prog.underlying 25 = some (.struct (Try.prog.fieldsOf 25)) := by kernel_rfl
  have hp : Try.prog.stoodInHeld 25 = false := by kernel_rfl
  rw [show (10000 : Nat) = 9999 + 1 from rfl, run_equalIn_agg w 9999 25 _ _ hS hp]
  simp only [Program.fieldsOf, Try.underlying25]
  go_simp
  by_cases h1 : a.toList = c.toList <;> by_cases h2 : b.toList = d.toList <;> simp [h1, h2]

set_option maxRecDepth 10000 in
set_option maxHeartbeats 2000000 in
theorem same_any {A B : Option Addr} {ca cb : Nat} {fs gs : List (List UInt8 × List UInt8)} {w : World} (hA : FldsAt A fs w) (hB : FldsAt B gs w) (hn : fs.length ≤ 1000000) (hm : gs.length ≤ 1000000) :
    Calls Try.prog 24 #[.slice A fs.length ca, .slice B gs.length cb] w fun e w' => e = .returned (.bool (decide (fs = gs))) ∧ Below w.heap.size w w' := by
  have HA := Lib.hid hA
  have HB := Lib.hid hB
  clear hA hB
  obtain ⟨nf, hnf⟩ : ∃ nf, fs.length = nf := ⟨_, rfl⟩
  obtain ⟨ng, hng⟩ : ∃ ng, gs.length = ng := ⟨_, rfl⟩
  have HNF := Lib.hid hnf
  have HNG := Lib.hid hng
  rw [hnf] at hn ⊢
  rw [hng] at hm ⊢
  clear hnf hng
  by_cases hl : nf = ng
  · subst hl
    go_enter Try.func24, Try.ntmps24
    go_wp2
    go_loopw [5] (fun v wr => ∃ k : Nat, k ≤ nf ∧ v = .int .i64 k ∧ fs.take k = gs.take k ∧ Below w.heap.size w wr) (fun v _ => nf - (RowKit.intOf v).toNat)
    case atStart => exact ⟨0, Nat.zero_le _, rfl, rfl, Below.refl _ _⟩
    case round =>
      obtain ⟨k, hk, rfl, ht, hbl⟩ := hrel
      have HT := Lib.hid ht
      have HBL := Lib.hid hbl
      clear ht hbl
      by_cases hlt : k < nf
      · have hk1 : k < fs.length := by rw [HNF.out]; exact hlt
        have hk2 : k < gs.length := by rw [HNG.out]; exact hlt
        obtain ⟨ad, rfl, hb0⟩ := HA.out.at_ (by omega)
        obtain ⟨bd, rfl, hb1⟩ := HB.out.at_ (by omega)
        obtain ⟨c0, c1⟩ := (HA.out.kept (kept_of_below HBL.out) (fun _ _ f => f)).cell k ad hk1 rfl
        obtain ⟨d0, d1⟩ := (HB.out.kept (kept_of_below HBL.out) (fun _ _ f => f)).cell k bd hk2 rfl
        have hs1 : Hid (fs.take (k + 1) = fs.take k ++ [fs[k]]) := Lib.hid (List.take_succ_eq_append_getElem hk1)
        have hs2 : Hid (gs.take (k + 1) = gs.take k ++ [gs[k]]) := Lib.hid (List.take_succ_eq_append_getElem hk2)
        have hg1 : Hid (fs[k]? = some fs[k]) := Lib.hid (List.getElem?_eq_getElem hk1)
        have hg2 : Hid (gs[k]? = some gs[k]) := Lib.hid (List.getElem?_eq_getElem hk2)
        obtain ⟨⟨fn, fb⟩, hfk⟩ : ∃ q, fs[k] = q := ⟨_, rfl⟩
        obtain ⟨⟨gn, gb⟩, hgk⟩ : ∃ q, gs[k] = q := ⟨_, rfl⟩
        rw [hfk] at c0 c1 hs1 hg1
        rw [hgk] at d0 d1 hs2 hg2
        simp only at c0 c1 d0 d1
        clear hfk hgk
        unfold strV at c0 c1 d0 d1
        have i1 : (0 : Int) ≤ (k : Int) := Int.natCast_nonneg _
        have i2 : (k : Int) < (nf : Int) := by omega
        by_cases he : fn = gn ∧ fb = gb
        · obtain ⟨rfl, rfl⟩ := he
          go_wp2_with fail
          go_quiet (fail)
          go_wp2
          go_roundw
          case rel => exact ⟨k + 1, by omega, by go_num, by rw [hs1.out, hs2.out, HT.out], drewN_below _ HBL.out⟩
          case measure => simp [RowKit.intOf]; omega
        · have hne : Hid (fs ≠ gs) := Lib.hid (by
            rintro rfl
            have := hg1.out.symm.trans hg2.out
            injection this with this
            injection this with e1 e2
            exact he ⟨e1, e2⟩)
          by_cases h1 : fn = gn
          · have h2 : ¬ (bsOf fb).toList = (bsOf gb).toList := toList_ne (fun e => he ⟨h1, e⟩)
            subst h1
            clear he
            go_wp2_with fail
            go_quiet (fail)
            go_wp2
            go_ret
            exact ⟨by rw [decide_eq_false hne.out]; rfl, drewN_below _ HBL.out⟩
          · have h2 : ¬ (bsOf fn).toList = (bsOf gn).toList := toList_ne h1
            clear he h1
            go_wp2_with fail
            go_quiet (fail)
            go_wp2
            go_ret
            exact ⟨by rw [decide_eq_false hne.out]; rfl, drewN_below _ HBL.out⟩
      · obtain rfl : k = nf := by omega
        have he : Hid (decide (fs = gs) = true) := Lib.hid (by
          have := HT.out
          rw [List.take_of_length_le (by rw [HNF.out]; exact Nat.le_refl _), List.take_of_length_le (by rw [HNG.out]; exact Nat.le_refl _)] at this
          rw [decide_eq_true this])
        go_wp2
        go_ret
        exact ⟨by rw [he.out]; rfl, HBL.out⟩
  · have hd : decide (fs = gs) = false := by
      rw [decide_eq_false_iff_not]
      rintro rfl
      exact hl (HNF.out.symm.trans HNG.out)
    have hl' : ¬ (nf : Int) = ng := by omega
    rw [hd]
    go_enter Try.func24, Try.ntmps24
    go_wp2
    go_ret
    exact ⟨rfl, Below.refl _ _⟩
end Go.Proofs.Ytknamddpflkifaa
