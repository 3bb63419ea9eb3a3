/- FieldWidths holds: for every field the law returns true, and the field reads as before.
   Conditions: none. -/
import Derived.Test.YtknamddpflkifaaG6
namespace Go.Proofs.Ytknamddpflkifaa
open Go.ChangeShapes Go.WideShapes Go.ChangeAt Go.RowKit Go.Lib

/-- What holds at the head of a round of FieldWidths. -/
def WiRel (sl n' b' : List UInt8) (w : World) (v5 v6 v7 : Value) (wr : World) : Prop :=
  ∃ (a b i : Nat) (ls : List (List UInt8)), v5 = .int .i64 a ∧ v6 = .int .i64 b ∧ v7 = .int .i64 i ∧ sl.drop a = nlF ls ∧ okL n'.length (decide (a = 0)) b ls ∧ a ≤ i ∧ (ls = [] → i = a) ∧ (∀ l r, ls = l :: r → i ≤ a + l.length) ∧
    a ≤ sl.length ∧ b ≤ sl.length ∧ Below w.heap.size w wr ∧ wr.heap[w.heap.size]? = some (.cells #[strV n', strV b'] 25 (0, 0))

theorem nlF_byte {sl l : List UInt8} {a j : Nat} {r : List (List UInt8)} (hd : sl.drop a = nlF (l :: r)) (hj : j < l.length) : ∃ h : a + j < (bsOf sl).size, (bsOf sl)[a + j] = l[j] := by
  rw [nlF_cons] at hd
  have hlen := congrArg List.length hd
  rw [List.length_drop, List.length_append, List.length_cons] at hlen
  refine ⟨by rw [bsOf_size]; omega, ?_⟩
  have h1 : (sl.drop a)[j]? = some l[j] := by rw [hd, List.getElem?_append_left hj, List.getElem?_eq_getElem hj]
  rw [List.getElem?_drop] at h1
  have h2 : sl[a + j]? = some ((bsOf sl)[a + j]'(by rw [bsOf_size]; omega)) := by
    rw [List.getElem?_eq_getElem (by omega)]
    congr 1
  rw [h2] at h1
  injection h1
theorem nlF_end {sl l : List UInt8} {a : Nat} {r : List (List UInt8)} (hd : sl.drop a = nlF (l :: r)) : ∃ h : a + l.length < (bsOf sl).size, (bsOf sl)[a + l.length] = 10 := by
  rw [nlF_cons] at hd
  have hlen := congrArg List.length hd
  rw [List.length_drop, List.length_append, List.length_cons] at hlen
  refine ⟨by rw [bsOf_size]; omega, ?_⟩
  have h1 : (sl.drop a)[l.length]? = some 10 := by rw [hd, List.getElem?_append_right (Nat.le_refl _), Nat.sub_self]; rfl
  rw [List.getElem?_drop] at h1
  have h2 : sl[a + l.length]? = some ((bsOf sl)[a + l.length]'(by rw [bsOf_size]; omega)) := by
    rw [List.getElem?_eq_getElem (by omega)]
    congr 1
  rw [h2] at h1
  injection h1
theorem nlF_next {sl l : List UInt8} {a : Nat} {r : List (List UInt8)} (hd : sl.drop a = nlF (l :: r)) : sl.drop (a + l.length + 1) = nlF r ∧ a + l.length + 1 ≤ sl.length ∧ Value.string ((bsOf sl).extract a (a + l.length)) = strV l := by
  rw [nlF_cons] at hd
  have hlen := congrArg List.length hd
  rw [List.length_drop, List.length_append, List.length_cons] at hlen
  refine ⟨?_, by omega, ?_⟩
  · rw [show a + l.length + 1 = a + (l.length + 1) by omega, ← List.drop_drop, hd]
    rw [show l ++ 10 :: nlF r = (l ++ [10]) ++ nlF r by simp, show l.length + 1 = (l ++ [10]).length by simp, List.drop_left]
  · have := strV_extract (bsOf sl) a (a + l.length)
    rw [bsOf_data, hd, Nat.add_sub_cancel_left, List.take_left] at this
    exact this
/-- The words by the document, as a row. -/
def WordsRow (l : List UInt8) (w : World) (e : Ending) (w' : World) : Prop :=
  ∃ A cap, e = .returned (.slice A (wordsL l).length cap) ∧ w'.ownsRow w.heap.size 9 1 (.slice A (wordsL l).length cap) (wordsL l).length ((wordsL l).map strV) ∧ Below w.heap.size w w'
theorem rwords_row (l : List UInt8) (w : World) (hs : l.length ≤ 1000000) : Calls Try.prog 19 #[strV l] w (WordsRow l w) := by
  refine (rwords_any (bsOf l) w (by rw [bsOf_size]; exact hs)).mono ?_
  rintro e w' ⟨v, rfl, hown, hb⟩
  rw [bsOf_data] at hown
  obtain ⟨A, cap, rfl⟩ := own_shape hown
  exact ⟨A, cap, rfl, hown, hb⟩
theorem min_drop (l : List UInt8) (n : Nat) : ∃ q : Nat, min ((bsOf l).size : Int) ((n : Int) + 1) = q ∧ q ≤ (bsOf l).size ∧ Value.string ((bsOf l).extract q (bsOf l).size) = strV (l.drop (n + 1)) := by
  refine ⟨min (bsOf l).size (n + 1), by omega, Nat.min_le_left _ _, ?_⟩
  rw [strV_extract, bsOf_data, bsOf_size]
  congr 1
  by_cases h : l.length ≤ n + 1
  · rw [Nat.min_eq_left h, Nat.sub_self, List.take_zero, List.drop_of_length_le h]
  · rw [Nat.min_eq_right (by omega), List.take_of_length_le (by simp)]
theorem words_le (l : List UInt8) : (wordsL l).length ≤ l.length + 1 := words_count l []

theorem fold_small {n b : List UInt8} (h1 : n.length ≤ 60) (h2 : b.length ≤ 9000) : (foldL n b).length ≤ 100000 := by
  have h := foldS_len (wordsL b) [] (n ++ [58]) true
  have h3 := words_both b
  unfold foldL
  rw [List.length_append, List.length_append]
  simp at h ⊢
  omega

set_option maxRecDepth 10000 in
set_option maxHeartbeats 4000000 in
theorem widths_any (n b : List UInt8) (w : World) (m : Int) (hm : w.cell? ⟨0, 0, none⟩ = some (.int .i64 m)) (h1 : n.length ≤ 9223372036854775807) (h2 : b.length ≤ 9223372036854775807) :
    Calls Try.prog 5 #[.agg #[strV n, strV b]] w fun e w' => e = .returned (.bool true) ∧ Below w.heap.size w w' := by
  have h0 := World.block_lt_of_cell? w _ hm
  have CC := fun (cap : Nat) (W : World) (hb : W.heap[w.heap.size + 1]? = some (.cells #[strV n, strV b] 25 (0, 0))) => cut_one (cap := cap) hb h1 h2
  have CCH := Lib.hid CC
  obtain ⟨n', hn'⟩ : ∃ n', n.take 60 = n' := ⟨_, rfl⟩
  obtain ⟨b', hb'⟩ : ∃ b', b.take 9000 = b' := ⟨_, rfl⟩
  have l1 : n'.length ≤ 60 := by rw [← hn', List.length_take]; omega
  have l2 : b'.length ≤ 9000 := by rw [← hb', List.length_take]; omega
  have FO := fun W => fold_any (bsOf n') (bsOf b') W (by rw [bsOf_size]; omega) (by rw [bsOf_size]; omega)
  rw [bsOf_data, bsOf_data] at FO
  have hfl := fold_small (n := n') (b := b') (by omega) (by omega)
  clear CC l2
  unfold CutOne at CCH
  rw [hn', hb'] at CCH
  have HM := Lib.hid hm
  have HK := Lib.hid (fun W hm => known_any W m hm)
  clear hm h1 h2 hn' hb'
  obtain ⟨c, hc⟩ : ∃ c, checkI n' b' = c := ⟨_, rfl⟩
  rw [hc] at FO
  have hfr : (c ≠ 0 ∧ foldR n' b' = []) ∨ (c = 0 ∧ ∃ ls, foldR n' b' = nlF ls ∧ okL n'.length true 0 ls ∧ (nlF ls).length ≤ 100000) := by
    unfold foldR
    rw [hc]
    by_cases h : c = 0
    · subst h
      obtain ⟨ls, e1, e2⟩ := fold_ok hc
      exact .inr ⟨rfl, ls, by rw [if_pos rfl, e1], e2, by rw [← e1]; exact hfl⟩
    · exact .inl ⟨h, by rw [if_neg h]⟩
  clear hc hfl
  unfold strV at CCH ⊢
  rcases hfr with ⟨hc, he⟩ | ⟨rfl, ls, he, hok, hlen⟩
  all_goals rw [he] at FO
  all_goals clear he
  case' inl =>
    have q1 : (c == 0) = false := beq_eq_false_iff_ne.2 hc
    have q2 : (c != 0) = true := by rw [bne, q1]; rfl
    have he : strV [] = .string ⟨#[]⟩ := rfl
    rw [he] at FO
    clear hc he
  case' inr =>
    obtain ⟨sl, hsl⟩ : ∃ sl, nlF ls = sl := ⟨_, rfl⟩
    rw [hsl] at FO hlen
    have HSL := Lib.hid hsl
    have HOK := Lib.hid hok
    clear hsl hok
    have hsz : (bsOf sl).size = sl.length := bsOf_size sl
    have hsz2 : (bsOf sl).size ≤ 100000 := by omega
    have HSZ := Lib.hid hsz
    clear hsz
    unfold strV at FO
  all_goals
   go_enter Try.func5, Try.ntmps5
   go_wp2_with fail
   refine (CCH.out _ _ (heap_new_at (by simp) _)).mono ?_
   rintro e w1 ⟨gb, cap, rfl, hgb, hgb0, k0, k1, hb1⟩
   have hblk : w1.heap[w.heap.size]? = some (.cells #[.string (bsOf n), .string (bsOf b)] 25 (0, 0)) := by
     rw [hb1.block w.heap.size (by simp; omega)]
     exact heap_old_at (heap_new_at rfl _) _
   obtain ⟨t0, t1, t2, t3⟩ := two_cells hblk
   have z1 : w.heap.size + 2 ≤ w1.heap.size := by have := hb1.size; simp at this; omega
   have z2 : w.heap.size < gb := by simp at hgb0; omega
   have HB1 := Lib.hid hb1
   have HBLK := Lib.hid hblk
   clear hb1 hblk hgb0
   go_wp2_with fail
   refine (FO _).mono ?_
   rintro e w2 ⟨rfl, hb2⟩
   have hblk2 : w2.heap[w.heap.size]? = some (.cells #[.string (bsOf n'), .string (bsOf b')] 25 (0, 0)) := by
     rw [hb2.block w.heap.size (by simp; omega)]
     exact heap_set (heap_set HBLK.out _) _
   have z3 : w1.heap.size ≤ w2.heap.size := by have := hb2.size; simp at this; omega
   have HBK2 := Lib.hid hblk2
   have HBA := Lib.hid ((((((Below.refl w.heap.size w).alloc (Nat.le_refl _) (.cells #[.string (bsOf n), .string (bsOf b)] 25)).alloc (by simp) (.cells #[.string (bsOf n), .string (bsOf b)] 25)).trans (HB1.out.mono (by simp; omega))).setCell (Nat.le_refl _) _ |>.setCell (Nat.le_refl _) _).trans (hb2.mono (by simp; omega)))
   clear hb2 FO hblk2
   go_wp2_with fail
  · go_loopw [5, 6, 7, 8, 9, 10] (fun a b c _ _ _ wr => WiRel sl n' b' w a b c wr) (fun _ _ c _ _ _ _ => sl.length + 1 - (RowKit.intOf c).toNat)
    case atStart => exact ⟨0, 0, 0, ls, rfl, rfl, rfl, HSL.out.symm, HOK.out, Nat.le_refl _, fun _ => rfl, fun _ _ _ => Nat.zero_le _, Nat.zero_le _, Nat.zero_le _, HBA.out, HBK2.out⟩
    case round =>
      obtain ⟨a, b0, i, ls', rfl, rfl, rfl, hd, hok, hai, hj0, hj1, ha, hb0, hbl, hblk⟩ := hrel
      have HBL := Lib.hid hbl
      have HBK := Lib.hid hblk
      have hwr := hbl.size
      have hw0 := lt_of_block hblk
      have hsle : (bsOf sl).size ≤ sl.length ∧ sl.length ≤ (bsOf sl).size := by have := HSZ.out; omega
      obtain ⟨hs1, hs2⟩ := hsle
      clear hbl hblk
      cases ls' with
      | nil =>
        obtain rfl := hj0 rfl
        have hae : i = sl.length := by
          have := congrArg List.length hd
          simp [nlF] at this
          omega
        have hle : (bsOf sl).size ≤ i := by omega
        have heq : ((i : Int) == ((bsOf sl).size : Int)) = true := beq_iff_eq.2 (by omega)
        have CK := Lib.hid (HK.out wr (((bcell HBL.out).1 _ _ h0).trans HM.out))
        clear hj0 hj1 hd hok hae
        go_wp2_with fail
        refine CK.out.mono ?_
        rintro e w5 ⟨rfl, hb5⟩
        have HB5 := Lib.hid (HBL.out.trans (hb5.mono hwr))
        clear hb5
        go_wp2
        go_ret
        exact ⟨rfl, HB5.out⟩
      | cons l r =>
        have hj := hj1 l r rfl
        obtain ⟨n1, n2, n3⟩ := nlF_next hd
        have h10 : ∀ c ∈ l, c ≠ 10 := by
          cases hd0 : decide (a = 0) <;> rw [hd0] at hok <;> exact hok.1
        clear hj0 hj1
        by_cases hlt : i < a + l.length
        · have hby : ∃ h : i < (bsOf sl).size, (bsOf sl)[i] ≠ 10 := by
            obtain ⟨j, rfl⟩ : ∃ j, i = a + j := ⟨i - a, by omega⟩
            obtain ⟨q1, q2⟩ := nlF_byte hd (j := j) (by omega)
            exact ⟨q1, by rw [q2]; exact h10 _ (List.getElem_mem _)⟩
          obtain ⟨hlt2, hby⟩ := hby
          have hb1 : (((bsOf sl)[i].toNat : Int) != 10) = true := by
            rw [bne, Bool.not_eq_true', beq_eq_false_iff_ne]
            intro e
            exact hby (UInt8.toNat.inj (by have : (bsOf sl)[i].toNat = 10 := by omega
                                           rw [this]; rfl))
          have HD := Lib.hid hd
          have HOK := Lib.hid hok
          clear hd hok hby h10 n1 n3
          go_wp2
          go_roundw
          case rel => exact ⟨a, b0, i + 1, l :: r, rfl, rfl, by go_num, HD.out, HOK.out, by omega, fun h => (by cases h), fun l' r' h => (by injection h with h1 h2; rw [← h1]; omega), ha, hb0, HBL.out, HBK.out⟩
          case measure => simp [RowKit.intOf]; omega
        · obtain rfl : i = a + l.length := by omega
          obtain ⟨hlt2, hby⟩ := nlF_end hd
          have hb1 : (((bsOf sl)[a + l.length].toNat : Int) != 10) = false := by rw [hby]; rfl
          have hl1 : l.length ≤ 100000 := by omega
          have HN1 := Lib.hid n1
          have hX : (bsOf sl).extract a (a + l.length) = bsOf l := by injection n3
          have HX := Lib.hid hX
          have hls : (bsOf l).size ≤ l.length ∧ l.length ≤ (bsOf l).size := by rw [bsOf_size]; omega
          obtain ⟨ls1, ls2⟩ := hls
          have C1 := Lib.hid (rwords_row l wr (by omega))
          unfold WordsRow strV at C1
          have hnw := words_le l
          obtain ⟨nw, hnw'⟩ : ∃ nw, (wordsL l).length = nw := ⟨_, rfl⟩
          have HNW := Lib.hid hnw'
          rw [hnw'] at hnw C1
          obtain ⟨tt0, tt1, _, _⟩ := two_cells HBK.out
          unfold strV at tt0 tt1
          have T0 := Lib.hid tt0
          clear n1 n3 hX hby hnw' tt0 tt1
          by_cases ha0 : a = 0
          · have e1 : ((a : Int) == 0) = true := beq_iff_eq.2 (by omega)
            have e2 : a ≤ 0 := by omega
            rw [decide_eq_true ha0] at hok
            have hok' : (∀ c ∈ l, c ≠ 10) ∧ (78 < l.length → (wordsL (l.drop (n'.length + 1))).length ≤ 1) ∧ okL n'.length false l.length r := hok
            obtain ⟨_, o2, o3⟩ := hok'
            have O3 := Lib.hid o3
            obtain ⟨nx, hnx⟩ : ∃ nx, (wordsL (l.drop (n'.length + 1))).length = nx := ⟨_, rfl⟩
            have HNX := Lib.hid hnx
            have hnx2 := words_le (l.drop (n'.length + 1))
            rw [List.length_drop, hnx] at hnx2
            rw [hnx] at o2
            have hot : (¬ 78 < (bsOf l).size) ∨ (78 < (bsOf l).size ∧ nx ≤ 1) := by omega
            obtain ⟨q, mq, hq, eq⟩ := min_drop l n'.length
            have hns : ((n'.length : Nat) : Int) = ((bsOf n').size : Int) := by rw [bsOf_size]
            rw [hns] at mq
            have hY : (bsOf l).extract q (bsOf l).size = bsOf (l.drop (n'.length + 1)) := by injection eq
            have HY := Lib.hid hY
            have hn60 : (bsOf n').size ≤ 60 := by rw [bsOf_size]; exact l1
            have j1 : (0 : Int) ≤ (q : Int) := Int.natCast_nonneg _
            have j2 : (q : Int) ≤ ((bsOf l).size : Int) := by omega
            have C2 := Lib.hid (fun W => rwords_row (l.drop (n'.length + 1)) W (by rw [List.length_drop]; omega))
            unfold WordsRow strV at C2
            rw [hnx] at C2
            clear hok h10 eq hY hns hnx o2 o3 ha0
            rcases hot with hot | ⟨hot1, hot2⟩
            all_goals
              go_wp2_with fail
              rw [HX.out]
              refine C1.out.mono ?_
              rintro e w3 ⟨A3, cap3, rfl, _, hb3⟩
              have hblk3 := (hb3.block w.heap.size hw0).trans HBK.out
              obtain ⟨tt0, tt1, _, _⟩ := two_cells hblk3
              unfold strV at tt0 tt1
              have HBK3 := Lib.hid hblk3
              have HB3 := Lib.hid (HBL.out.trans (hb3.mono hwr))
              have hz3 : w.heap.size < w3.heap.size := lt_of_block hblk3
              clear hb3 hblk3
              go_wp2_with fail
              rw [HY.out]
              refine (C2.out _).mono ?_
              rintro e w4 ⟨A4, cap4, rfl, _, hb4⟩
              have HBK4 := Lib.hid ((hb4.block w.heap.size hz3).trans HBK3.out)
              have HB4 := Lib.hid (HB3.out.trans (hb4.mono (Nat.le_of_lt hz3)))
              clear hb4
              go_wp2
              go_roundw
              case rel => exact ⟨a + l.length + 1, l.length, a + l.length + 1, r, by go_num, by rw [bsOf_size], by go_num, HN1.out, by rw [decide_eq_false (by omega)]; exact O3.out, Nat.le_refl _, fun _ => rfl, fun _ _ _ => by omega, n2, by omega, HB4.out, HBK4.out⟩
              case measure => simp [RowKit.intOf]; omega
          · have e1 : ((a : Int) == 0) = false := beq_eq_false_iff_ne.2 (by omega)
            have e2 : 0 < a := by omega
            rw [decide_eq_false ha0] at hok
            have hok' : (∀ c ∈ l, c ≠ 10) ∧ (78 < l.length → (wordsL l).length ≤ 1) ∧ (∃ x t, wordsL l = x :: t ∧ 78 < b0 + 1 + x.length) ∧ (∃ t, l = 32 :: t) ∧ okL n'.length false l.length r := hok
            obtain ⟨_, o2, ⟨x, t, hx, o3⟩, ⟨lt, hlt0⟩, o5⟩ := hok'
            have O5 := Lib.hid o5
            rw [HNW.out] at o2
            have hot : (¬ 78 < (bsOf l).size) ∨ (78 < (bsOf l).size ∧ nw ≤ 1) := by omega
            have hnw1 : 1 ≤ nw := by rw [← HNW.out, hx]; simp
            have e3 : ((nw : Int) == 0) = false := beq_eq_false_iff_ne.2 (by omega)
            have hxs : (bsOf x).size ≤ x.length ∧ x.length ≤ (bsOf x).size := by rw [bsOf_size]; omega
            obtain ⟨xs1, xs2⟩ := hxs
            have hxl : x.length ≤ l.length := by
              have := (next_word (l := l) (a := 0) (Nat.zero_le _) (by rw [List.drop_zero]; exact hx)).2.2.2
              exact this
            have hpos : 0 < (bsOf l).size := by rw [bsOf_size, hlt0]; simp
            have hc0 : (((bsOf l)[0].toNat : Int) != 32) = false := by
              have : (bsOf l)[0] = 32 := by subst hlt0; rfl
              rw [this]; rfl
            have HX2 := Lib.hid hx
            clear hok h10 hx o2 o5 ha0 hlt0
            rcases hot with hot | ⟨hot1, hot2⟩
            all_goals
              go_wp2_with fail
              rw [HX.out]
              refine C1.out.mono ?_
              rintro e w3 ⟨A3, cap3, rfl, _, hb3⟩
              have HBK3 := Lib.hid ((hb3.block w.heap.size hw0).trans HBK.out)
              have HB3 := Lib.hid (HBL.out.trans (hb3.mono hwr))
              have hz3 : w.heap.size < w3.heap.size := lt_of_block HBK3.out
              have C2 := Lib.hid (rwords_row l w3 (by omega))
              unfold WordsRow strV at C2
              rw [HNW.out] at C2
              clear hb3
              go_wp2_with fail
              refine C2.out.mono ?_
              rintro e w4 ⟨A4, cap4, rfl, hown4, hb4⟩
              have HBK4 := Lib.hid ((hb4.block w.heap.size hz3).trans HBK3.out)
              have HB4 := Lib.hid (HB3.out.trans (hb4.mono (Nat.le_of_lt hz3)))
              obtain ⟨g4, cap5, he, _, hg4, _, hcell⟩ := own_cell hown4 (by omega)
              injection he with he1 _ he2
              subst he1; subst he2
              have hc4 : w4.cell? ⟨g4, 0, none⟩ = some (.string (bsOf x)) := hcell 0 _ (by rw [HX2.out]; rfl)
              clear hb4 hcell hown4
              go_wp2
              go_roundw
              case rel => exact ⟨a + l.length + 1, l.length, a + l.length + 1, r, by go_num, by rw [bsOf_size], by go_num, HN1.out, by rw [decide_eq_false (by omega)]; exact O5.out, Nat.le_refl _, fun _ => rfl, fun _ _ _ => by omega, n2, by omega, HB4.out, HBK4.out⟩
              case measure => simp [RowKit.intOf]; omega
  · refine (HK.out _ (((bcell HBA.out).1 _ _ h0).trans HM.out)).mono ?_
    rintro e w5 ⟨rfl, hb5⟩
    have HB5 := Lib.hid (HBA.out.trans (hb5.mono (by omega)))
    clear hb5
    go_wp2
    go_ret
    exact ⟨rfl, HB5.out⟩

set_option maxRecDepth 100000 in
theorem fieldWidths_lifted (os : Os) (started : os.Started) (H : Type) (enc : TypeId × Value → H) :
    ReturnsInHanded {} Try.checked os 5 .any (Rows.fieldWidthsSpec.pre6 enc Try.prog Try.f5 Rows.fieldWidthsRow.domain false) (Rows.fieldWidthsSpec.post enc Try.prog Try.f5 false true false false) := by
  refine returnsInHanded_of_change_shaped (C := Try.checked) Try.own started (by kernel_rfl) Try.func5
    (ChangeSpec.witness6 (enc := enc) (C := Try.checked) false ⟨#[], #[.agg #[.string ⟨#[]⟩, .string ⟨#[]⟩]], []⟩ 8 (by kernel_rfl) (by kernel_rfl) (by kernel_rfl) (by kernel_rfl)) ?_
  intro W base args ds gs before hval0 hW hcnd0 hsz0 hsh _
  have hval : ∀ (j : Nat) t v, Try.f5.params[j]? = some t → args[j]? = some v → Value.okWide Try.prog W .any base t v := hval0
  have hW' := hW
  have hltb : ∀ x ∈ before, x.block < W.heap.size := fun x hx => hW.lt x hx
  have hsz : (DataW.weightsEach Try.prog (Try.f5.params.toList ++ []) (ds ++ gs)).all (· ≤ reachBytes) = true := hsz0
  obtain ⟨p, q, hA0, hV, rfl, hfz, hnd⟩ := hW
  have hA : DataW.TrodAll enc Try.prog W 0 (fun _ => true) true Try.f5.params.toList args.toList ds p := hA0
  rw [Try.params5] at hA hval hsz
  obtain ⟨v0, d0, rfl, rfl, h0⟩ := trodAll_one hA
  obtain ⟨rfl, rfl⟩ := trodVars_none hV
  obtain ⟨a0, b0, rfl, y0, z0⟩ := fld_arg (hval 0 25 v0 rfl rfl) h0 (fun n hn => by have := List.all_eq_true.1 hsz n (DataW.weights_mem_each (j := 0) rfl rfl n hn); simpa using this)
  obtain ⟨m, hm⟩ := maxLen_cell hsh
  clear hA0 hval0 hsz0
  simp only [List.append_nil] at hW' hltb
  refine (widths_any a0 b0 W m hm y0 z0).mono fun e W' ⟨he, hb⟩ => ?_
  subst he
  refine ⟨_, rfl, post_of_below (pa := p) (pv := []) hW' (fun _ _ _ => trodAll_mk1 (shut_bool Try.underlying4 true)) (fun sp hsp => ?_) (fun _ _ => rfl) (by simp) hb (ok_one (by kernel_rfl) rfl (okWide_bool_mk Try.underlying4 _))⟩
  refine trodAll_mk1 ?_
  · exact WideElems.Trod_stays Try.laidOut (by kernel_rfl) (of_decide_eq_true (by kernel_rfl)) h0 (fun x hx => hb.same (hltb x (by simp [hx]))) (fun x hx => hsp x (by simp [hx]))

theorem fieldWidths_holds : Rows.FieldWidthsSaid :=
  OpenClaim.holds_of_wide 5 Try.f5 rfl rfl rfl rfl rfl rfl rfl ⟨rfl, rfl, rfl, rfl, rfl⟩ rfl rfl rfl rfl rfl (by kernel_rfl) Try.func5 (by kernel_rfl)
    (of_decide_eq_true (by kernel_rfl)) (by unfold Func.isWrapper; rw [if_neg (of_decide_eq_false (by kernel_rfl))]; exact ⟨rfl, rfl⟩)
    (fun os started H enc _ => fieldWidths_lifted os started H enc)

end Go.Proofs.Ytknamddpflkifaa
