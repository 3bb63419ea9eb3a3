/- Joined words, the squeezed text, the test of a field over this translation.
   Conditions: texts of at most 1000000 bytes. -/
import Derived.Test.YteecmcphbehfgaaGreatDoorF5
namespace Go.Proofs.YteecmcphbehfgaaGreatDoor
open Go.RowKit Go.Lib

/-! ### plain -/
/-- The words joined by single spaces. -/
def joinW (ws : List (List UInt8)) : List UInt8 := Lib.join ws [32]
theorem bsOf_data (l : List UInt8) : (bsOf l).data.toList = l := by simp [bsOf]
theorem bsOf_size (l : List UInt8) : (bsOf l).size = l.length := by show l.toArray.size = _; simp
theorem map_bsOf (ws : List (List UInt8)) : (ws.map bsOf).map (·.data.toList) = ws := by
  rw [List.map_map]
  have : ((fun x : ByteArray => x.data.toList) ∘ bsOf) = id := by funext l; exact bsOf_data l
  rw [this, List.map_id]
theorem bsOf_eta (s : ByteArray) : bsOf s.data.toList = s := by cases s; simp [bsOf]

def lensW (ws : List (List UInt8)) : Nat := (ws.map (·.length)).sum
theorem joinTail_len : ∀ (r : List (List UInt8)), (Lib.joinTail [32] r).length = r.length + lensW r
  | [] => rfl
  | y :: r => by
    have := joinTail_len r
    simp only [Lib.joinTail, lensW, List.map_cons, List.flatten_cons, List.length_append, List.sum_cons, List.length_cons] at this ⊢
    rw [this]
    simp
    omega
theorem joinW_len (ws : List (List UInt8)) : (joinW ws).length ≤ lensW ws + ws.length := by
  cases ws with
  | nil => simp [joinW, Lib.join_nil]
  | cons x r =>
    unfold joinW
    rw [Lib.join_cons, List.length_append, joinTail_len]
    simp [lensW]
    omega
theorem wordsG_lens : ∀ (l cur : List UInt8), lensW (wordsG l cur) ≤ cur.length + l.length
  | [], cur => by unfold wordsG; split <;> simp [lensW]
  | c :: r, cur => by
    have h1 := wordsG_lens r []
    have h2 := wordsG_lens r (cur ++ [c])
    unfold wordsG
    split
    · split
      · simp at h1 ⊢; omega
      · simp [lensW] at h1 ⊢; omega
    · simp at h2 ⊢; omega
theorem wordsG_both : ∀ (l cur : List UInt8), lensW (wordsG l cur) + (wordsG l cur).length ≤ cur.length + l.length + 1
  | [], cur => by unfold wordsG; split <;> simp [lensW]
  | c :: r, cur => by
    have h1 := wordsG_both r []
    have h2 := wordsG_both r (cur ++ [c])
    unfold wordsG
    split
    · split
      · simp at h1 ⊢; omega
      · simp [lensW] at h1 ⊢; omega
    · simp at h2 ⊢; omega
theorem joinW_words (l : List UInt8) : (joinW (wordsL l)).length ≤ l.length + 1 := by
  have h1 := joinW_len (wordsL l)
  have h2 := wordsG_both l []
  have h3 : lensW (wordsL l) + (wordsL l).length = lensW (wordsG l []) + (wordsG l []).length := rfl
  simp at h2
  omega
theorem words_len (l : List UInt8) : (wordsL l).length ≤ l.length + 1 := words_count l []

def longB (x : List UInt8) : Bool := decide (900 < x.length)

/-! ### walks -/
theorem join_any {B : Nat} {v : Value} {ws : List (List UInt8)} {w : World} (h : w.ownsRow B 9 1 v ws.length (ws.map strV)) (hn : ws.length ≤ 2000000) (hl : (joinW ws).length ≤ 4000000) :
    Calls Tryz.prog 121 #[v, .string ⟨#[32]⟩] w fun e w' => e = .returned (strV (joinW ws)) ∧ Below w.heap.size w w' := by
  by_cases h0 : ws.length = 0
  · obtain rfl := List.length_eq_zero_iff.1 h0
    obtain ⟨A, cap, rfl⟩ := own_shape h
    exact (Tryz.strings_Join_none A cap _ w).mono fun e w' ⟨he, hw⟩ => ⟨he, hw ▸ Below.refl _ _⟩
  · obtain ⟨g, cap, rfl, hB, hg, hc, hcell⟩ := own_cell h (by omega)
    have hJ := Tryz.strings_Join g 0 cap (ws.map bsOf) ⟨#[32]⟩ w (fun j x hx => by
      rw [Nat.zero_add]
      refine hcell j _ ?_
      rw [List.getElem?_map] at hx ⊢
      cases hw : ws[j]? with
      | none => rw [hw] at hx; cases hx
      | some y => rw [hw] at hx; injection hx with hx; rw [← hx]; rfl) hg (by simp; omega) (by simp; omega) (by rw [map_bsOf]; show (joinW ws).length ≤ _; omega)
    rw [List.length_map, map_bsOf] at hJ
    exact hJ

set_option maxHeartbeats 400000 in
theorem long_any (x : List UInt8) (w : World) : Calls Tryz.prog 123 #[strV x] w fun e w' => e = .returned (.bool (longB x)) ∧ w = w' := by
  have hz := bsOf_size x
  have HZ := Lib.hid hz
  clear hz
  have hd : decide ((900 : Int) < (bsOf x).size) = longB x := by
    unfold longB
    rw [HZ.out]
    exact decide_eq_decide.2 (by omega)
  have HD := Lib.hid hd
  clear hd
  unfold strV
  go_enter Tryz.func123, Tryz.ntmps123
  go_wp2
  go_ret
  refine ⟨ret_bool ?_, rfl⟩
  first | exact HD.out | (rw [← HD.out]; simp)

set_option maxRecDepth 10000 in
set_option maxHeartbeats 1000000 in
theorem some_long {B : Nat} {v : Value} {ws : List (List UInt8)} {w : World} (h : w.ownsRow B 9 1 v ws.length (ws.map strV)) (hn : ws.length ≤ 2000000) :
    Calls Tryz.prog 122 #[v, .func (.func 123) #[] #[]] w fun e w' => e = .returned (.bool (ws.any longB)) ∧ w = w' := by
  have e50 : ∀ (args : Array Value) (w : World), (callFunc 123 args).run Tryz.prog w = .ok (.enter 123 args) w := enters_of Tryz.func123 (by kernel_rfl) rfl
  have H := Lib.hid h
  obtain ⟨A, cap, rfl⟩ := own_shape h
  clear h
  go_enter Tryz.func122, Tryz.ntmps122
  go_wp2
  go_loop [6, 9] (fun _ v => ∃ k : Nat, k ≤ ws.length ∧ v = .int .i64 k ∧ Hid (∀ j (h : j < ws.length), j < k → longB ws[j] = false)) (fun _ v => ws.length - (RowKit.intOf v).toNat)
  case atStart => exact ⟨0, Nat.zero_le _, rfl, Lib.hid fun j _ h => by omega⟩
  case round =>
    obtain ⟨k, hk, rfl, HN⟩ := hrel
    by_cases hlt : k < ws.length
    · obtain ⟨g, cap', he, hB, hg, hc, hcell⟩ := own_cell H.out (by omega)
      injection he with he1 _ he2
      subst he1; subst he2
      have ck := hcell k (strV ws[k]) (by rw [List.getElem?_map, List.getElem?_eq_getElem hlt]; rfl)
      have C1 := Lib.hid (long_any ws[k] w)
      have hx : ws[k] = ws[k] := rfl
      clear hcell hx
      unfold strV at ck C1
      cases hb : longB ws[k]
      · rw [hb] at C1
        have HB := Lib.hid hb
        clear hb
        go_wp2_with (go_at_fn 123; refine C1.out.mono ?_; rintro e w' ⟨rfl, rfl⟩)
        go_round
        case rel => exact ⟨k + 1, by omega, by go_num, Lib.hid fun j hj hjk => by
            by_cases e : j = k
            · subst e; exact HB.out
            · exact HN.out j hj (by omega)⟩
        case measure => simp [RowKit.intOf]; omega
      · rw [hb] at C1
        have HB : Hid (ws.any longB = true) := Lib.hid (List.any_eq_true.2 ⟨_, List.getElem_mem hlt, hb⟩)
        clear hb
        go_wp2_with (go_at_fn 123; refine C1.out.mono ?_; rintro e w' ⟨rfl, rfl⟩)
        go_ret
        exact ⟨ret_bool HB.out.symm, rfl⟩
    · obtain rfl : k = ws.length := by omega
      have HB : Hid (ws.any longB = false) := Lib.hid (List.any_eq_false.2 fun x hx => by
        obtain ⟨j, hj, rfl⟩ := List.getElem_of_mem hx
        rw [HN.out j hj hj]; decide)
      go_wp2
      go_ret
      exact ⟨ret_bool HB.out.symm, rfl⟩
end Go.Proofs.YteecmcphbehfgaaGreatDoor
