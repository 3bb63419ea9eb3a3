/- Parse of the document over this translation: what the program's Parse computes.
   Conditions: texts of at most 1000000 bytes. -/
import Derived.Test.YtknamddpflkifaaG13
namespace Go.Proofs.Ytknamddpflkifaa
open Go.RowKit Go.Lib

theorem ne_byte {c k : UInt8} (h : c ≠ k) : ((c.toNat : Int) != (k.toNat : Int)) = true := by
  rw [bne, Bool.not_eq_true', beq_eq_false_iff_ne]
  intro e
  exact h (UInt8.toNat.inj (by omega))
theorem eq_byte {c k : UInt8} (h : c ≠ k) : ((c.toNat : Int) == (k.toNat : Int)) = false := by
  rw [beq_eq_false_iff_ne]
  intro e
  exact h (UInt8.toNat.inj (by omega))
theorem contB_first : ∀ (L : List UInt8) (k : Nat), k = 0 → ∀ (h : k < L.length), contB L = blkB (L[k]'h)
  | [], _, _, h => absurd h (by simp)
  | c :: r, _, rfl, _ => rfl
theorem nl_of_ne {c : UInt8} (h : c ≠ 10) : nlB c = true := by
  unfold nlB
  simp only [Bool.not_eq_true', decide_eq_false_iff_not]
  intro e
  exact h (UInt8.toNat.inj e)
theorem ne_of_ne {c k : UInt8} (h : c ≠ k) : neB k c = true := by
  unfold neB
  simp only [Bool.not_eq_true', decide_eq_false_iff_not]
  intro e
  exact h (UInt8.toNat.inj e)
theorem own_last {B gb n cap : Nat} {E : TypeId} {fs0 : List (List UInt8 × List UInt8)} {nm b : List UInt8} {w : World} (hn : n = fs0.length + 1) (h : w.ownsRow B E 2 (.slice (some ⟨gb, 0, none⟩) n cap) n (cellsF (fs0 ++ [(nm, b)]))) :
    gb < w.heap.size ∧ B ≤ gb ∧ w.cell? ⟨gb, fs0.length * 2 + 1, none⟩ = some (strV b) ∧ w.frozen? ⟨gb, fs0.length * 2 + 1, none⟩ = false := by
  subst hn
  have hlt := own_lt h gb rfl
  rcases h.2 with ⟨h0, _⟩ | ⟨gb', cap', cur, he, hBg, hg, hnc, _, hcs, ht⟩
  · cases h0
  · injection he with he1 _ he2
    injection he1 with he1
    injection he1 with he1
    subst he1; subst he2
    have hcb : cur[fs0.length * 2 + 1]? = some (strV b) := by
      have e : (cellsF (fs0 ++ [(nm, b)]))[fs0.length * 2 + 1]? = some (strV b) := by
        rw [cellsF_append, List.getElem?_append_right (by rw [cellsF_len]; omega), cellsF_len, show fs0.length * 2 + 1 - 2 * fs0.length = 1 by omega]
        rfl
      rw [← e, ← ht, List.getElem?_take, if_pos (by omega), ← Array.getElem?_toList]
    exact ⟨hlt.2, hlt.1, by rw [Lib.cell_of_heap hg]; exact hcb, Lib.frozen_of_heap hg _⟩
theorem own_pushed {B gb nf cap : Nat} {E : TypeId} {fs : List (List UInt8 × List UInt8)} {nm : List UInt8} {X : ByteArray} {w : World} (h : w.ownsRow B E 2 (.slice (some ⟨gb, 0, none⟩) (nf + 1) cap) (nf + 1) (cellsF fs ++ [.string X, .string ⟨#[]⟩])) (hX : X = bsOf nm) :
    w.ownsRow B E 2 (.slice (some ⟨gb, 0, none⟩) (nf + 1) cap) (nf + 1) (cellsF (fs ++ [(nm, [])])) := by
  subst hX
  rw [cellsF_append]
  exact h
theorem own_setLast {B gb n cap : Nat} {E : TypeId} {fs0 : List (List UInt8 × List UInt8)} {nm b : List UInt8} {w : World} (h : w.ownsRow B E 2 (.slice (some ⟨gb, 0, none⟩) n cap) n (cellsF (fs0 ++ [(nm, b)]))) (b' : List UInt8) :
    (w.setCell ⟨gb, fs0.length * 2 + 1, none⟩ (strV b')).ownsRow B E 2 (.slice (some ⟨gb, 0, none⟩) n cap) n (cellsF (fs0 ++ [(nm, b')])) := by
  have hs := own_set h (i := fs0.length * 2 + 1) (by rw [cellsF_len]; simp; omega) (strV b')
  rw [Nat.mul_comm, cellsF_last] at hs
  rw [Nat.mul_comm]
  exact hs
theorem new_cells2' (w : World) (a b : Value) (T : TypeId) : ∀ (j : Nat) (x : Value), [a, b][j]? = some x → (w.alloc (.cells #[a, b] T)).cell? ((⟨w.heap.size, 0, none⟩ : Addr).add j) = some x := by
  intro j x hj
  rw [add0]
  match j, hj with
  | 0, hj => rw [cell2.1]; exact hj
  | 1, hj => rw [cell2.2]; exact hj
  | j + 2, hj => simp at hj

/-- What Parse of the document hands back. -/
def RParsePost (l : List UInt8) (w : World) (e : Ending) (w' : World) : Prop :=
  ∃ v, e = .returned (.tuple #[v, .int .i64 (parseS l).2.1, .int .i64 (parseS l).2.2]) ∧ w'.ownsRow w.heap.size 25 2 v (parseS l).1.length (cellsF (parseS l).1) ∧ Below w.heap.size w w'
theorem rparse_none {l : List UInt8} {w w' : World} {p e : Int} (h : parseS l = ([], (p, e))) (hb : Below w.heap.size w w') : RParsePost l w (.returned (.tuple #[.slice none 0 0, .int .i64 p, .int .i64 e])) w' :=
  ⟨.slice none 0 0, by rw [h], by rw [h]; exact ⟨rfl, .inl ⟨rfl, rfl⟩⟩, hb⟩
/-- What holds at the head of a round of Parse. -/
def RPaRel (l : List UInt8) (w : World) (v5 v6 : Value) (wr : World) : Prop :=
  ∃ (a k : Nat) (fs : List (List UInt8 × List UInt8)), v6 = .int .i64 a ∧ a ≤ l.length ∧ l.length < a + k ∧ parseL l k a fs = parseS l ∧ Good fs ∧ Sq fs ∧ wr.ownsRow w.heap.size 25 2 v5 fs.length (cellsF fs) ∧ Below w.heap.size w wr

set_option maxRecDepth 10000 in
set_option maxHeartbeats 8000000 in
theorem rparse_any (text : ByteArray) (w : World) (hs : text.size ≤ 1000000) : Calls Try.prog 26 #[.string text] w (RParsePost text.data.toList w) := by
  obtain ⟨l, hl⟩ : ∃ l, text.data.toList = l := ⟨_, rfl⟩
  have hll : l.length = text.size := by rw [← hl]; simp
  have hby : ∀ i (h : i < l.length) (h' : i < text.size), l[i] = text[i] := by
    intro i h h'
    subst hl
    rfl
  have hext : ∀ i k, Value.string (text.extract i k) = strV ((l.drop i).take (k - i)) := fun i k => by rw [← hl]; exact strV_extract text i k
  rw [hl]
  have HL := Lib.hid hl
  have HLL := Lib.hid hll
  have HBY := Lib.hid hby
  have HEXT := Lib.hid hext
  clear hl hll hby hext
  obtain ⟨i0, hi, hz0, hz1, hz2⟩ := info_parts Try.rfl_info
  have HI := Lib.hid hi
  have HZ0 := Lib.hid hz0
  have HZ1 := Lib.hid hz1
  have HZ2 := Lib.hid hz2
  clear hi hz0 hz1 hz2
  by_cases hb : 65536 < text.size
  · have HE : Hid (parseS l = ([], (65536, 5))) := Lib.hid (by unfold parseS; rw [if_pos (by rw [HLL.out]; exact hb)])
    go_enter Try.func26, Try.ntmps26
    go_wp2
    go_ret3
    exact rparse_none HE.out (Below.refl _ _)
  have HE : Hid (parseL l (text.size + 1) 0 [] = parseS l) := Lib.hid (by unfold parseS; rw [if_neg (by rw [HLL.out]; exact hb), HLL.out])
  go_enter Try.func26, Try.ntmps26
  go_wp2
  go_loopw [5, 6, 7, 8, 9, 10, 11, 12, 13] (fun v5 v6 _ _ _ _ _ _ _ wr => RPaRel l w v5 v6 wr) (fun _ v6 _ _ _ _ _ _ _ _ => text.size + 1 - (RowKit.intOf v6).toNat)
  case atStart => exact ⟨0, text.size + 1, [], rfl, Nat.zero_le _, by rw [HLL.out]; omega, HE.out, ⟨Nat.zero_le _, fun f hf => (by cases hf)⟩, fun f hf => (by cases hf), ⟨rfl, .inl ⟨rfl, rfl⟩⟩, Below.refl _ _⟩
  case round =>
    obtain ⟨a, k, fs, rfl, ha, hk, hp, hG, hSq, hown, hbl⟩ := hrel
    obtain ⟨A5, cap5, rfl⟩ := own_shape2 hown
    rw [HLL.out] at ha hk
    have HP := Lib.hid hp
    have HG := Lib.hid hG
    have HSQ := Lib.hid hSq
    have HO := Lib.hid hown
    have HBL := Lib.hid hbl
    have hwr := hbl.size
    obtain ⟨nf, hnf⟩ : ∃ nf, fs.length = nf := ⟨_, rfl⟩
    have HNF := Lib.hid hnf
    have hn64 : nf ≤ 64 := by rw [← hnf]; exact hG.le
    rw [hnf] at HO ⊢
    clear hp hG hSq hown hbl hnf
    by_cases hlt : a < text.size
    · have hlt' : a < l.length := by rw [HLL.out]; exact hlt
      have hk' : l.length < a + k := by rw [HLL.out]; exact hk
      have HERR : Hid (∀ p e : Int, (oneS l a fs).2.2 = (p, e) → e ≠ 0 → parseS l = ([], (p, e))) := Lib.hid fun p e h1 h2 => parse_err hlt' hk' HP.out h1 h2
      have HGO : Hid (∀ (a' : Nat) (fs' : List (List UInt8 × List UInt8)), oneS l a fs = (a', fs', (0, 0)) → a < a' → ∃ k', l.length < a' + k' ∧ parseL l k' a' fs' = parseS l) := Lib.hid fun a' fs' h1 h2 => parse_go hlt' hk' HP.out h1 h2
      clear hlt' hk' hk
      go_wp2
      go_loop [7] (fun v => ∃ q : Nat, a ≤ q ∧ q ≤ text.size ∧ v = .int .i64 q ∧ Hid (spanL nlB l a = spanL nlB l q)) (fun v => text.size - (RowKit.intOf v).toNat)
      case atStart => exact ⟨a, Nat.le_refl _, ha, rfl, Lib.hid rfl⟩
      case round =>
        obtain ⟨q, hq1, hq2, rfl, HS⟩ := hrel
        by_cases hq : ∃ h : q < text.size, text[q] ≠ 10
        · obtain ⟨hq3, hq4⟩ := hq
          have hb1 : ((text[q].toNat : Int) != 10) = true := ne_byte hq4
          have HS2 : Hid (spanL nlB l a = spanL nlB l (q + 1)) := Lib.hid (by
            rw [HS.out]
            refine spanL_step (by rw [HLL.out]; exact hq3) ?_
            rw [HBY.out q (by rw [HLL.out]; exact hq3) hq3]
            exact nl_of_ne hq4)
          clear hq4
          go_wp2
          go_round
          case rel => exact ⟨q + 1, by omega, by omega, by go_num, HS2⟩
          case measure => simp [RowKit.intOf]; omega
        · by_cases hq3 : q < text.size
          · have hq4 : text[q] = 10 := by
              by_cases h : text[q] = 10
              · exact h
              · exact absurd ⟨hq3, h⟩ hq
            have hb1 : ((text[q].toNat : Int) != 10) = false := by rw [hq4]; rfl
            have hsp : spanL nlB l a = q := by
              rw [HS.out]
              refine spanL_stop (by rw [HLL.out]; exact hq3) ?_
              rw [HBY.out q (by rw [HLL.out]; exact hq3) hq3, hq4]
              rfl
            have hqe : ((q : Int) == (text.size : Int)) = false := beq_eq_false_iff_ne.2 (by omega)
            obtain ⟨L, hL⟩ : ∃ L, (l.drop a).take (q - a) = L := ⟨_, rfl⟩
            have hLl : L.length = q - a := by rw [← hL, List.length_take, List.length_drop, HLL.out]; omega
            have hn : spanL nlB (l.drop a) 0 = q - a := by have := spanL_drop0 nlB l a; omega
            have hne : q - a ≠ (l.drop a).length := by rw [List.length_drop, HLL.out]; omega
            have HLD := Lib.hid hL
            have HLN := Lib.hid hLl
            have HN := Lib.hid hn
            have HNE := Lib.hid hne
            have HLB : Hid (∀ i (h1 : a ≤ i) (h2 : i < q) (h3 : i < text.size) (h4 : i - a < L.length), L[i - a] = text[i]) := Lib.hid fun i h1 h2 h3 h4 => by
              have e : L[i - a]? = some text[i] := by
                rw [← HLD.out, List.getElem?_take, if_pos (by omega), List.getElem?_drop, show a + (i - a) = i by omega, List.getElem?_eq_getElem (by rw [HLL.out]; exact h3), HBY.out i (by rw [HLL.out]; exact h3) h3]
              rw [List.getElem?_eq_getElem h4] at e
              injection e
            clear hq hq4 hsp hL hLl hn hne HS
            by_cases h998 : 998 < q - a
            · have HE2 : Hid (parseS l = ([], ((a : Int) + 998, (5 : Int)))) := Lib.hid (HERR.out _ _ (one_line (lineS_long HN.out HNE.out h998) (by decide)) (by decide))
              have h998' : (998 : Int) < (q : Int) - a := by omega
              clear HERR HGO
              go_wp2
              go_ret3
              exact rparse_none HE2.out HBL.out
            have h998' : ¬ (998 : Int) < (q : Int) - a := by omega
            have hqa : q - a ≤ 998 := by omega
            go_wp2
            go_loop [8, 9] (fun c v => ∃ i : Nat, a ≤ i ∧ i ≤ q ∧ v = .int .i64 i ∧ Hid (spanL okB L 0 = spanL okB L (i - a)) ∧ ((c = .int .i64 (-1) ∧ Hid (spanL (neB 58) L 0 = spanL (neB 58) L (i - a))) ∨ ∃ d : Nat, c = .int .i64 d ∧ a ≤ d ∧ d < i ∧ Hid (spanL (neB 58) L 0 = d - a))) (fun _ v => q - (RowKit.intOf v).toNat)
            case atStart => exact ⟨a, Nat.le_refl _, hq1, rfl, Lib.hid (by rw [Nat.sub_self]), .inl ⟨rfl, Lib.hid (by rw [Nat.sub_self])⟩⟩
            case round =>
              obtain ⟨i, hi1, hi2, rfl, HOK, hcol⟩ := hrel
              by_cases hiq : i < q
              · have hit : i < text.size := by omega
                have hiL : i - a < L.length := by rw [HLN.out]; omega
                have hby := HLB.out i hi1 hiq hit hiL
                have hBYL := Lib.hid hby
                have hsi : Hid (i - a + 1 = i + 1 - a) := Lib.hid (by omega)
                have hvb : (visB text[i] = false ∧ blkB text[i] = false) ∨ (okB text[i] = true ∧ (visB text[i] = false → blkB text[i] = true)) := by
                  unfold okB
                  cases visB text[i] <;> cases blkB text[i] <;> simp
                rcases hvb with ⟨hv, hbk⟩ | ⟨hbx, hB⟩
                · have HBAD : Hid (parseS l = ([], ((i : Int), (6 : Int)))) := Lib.hid (HERR.out _ _ (one_line (L := L) (by
                    have h1 : spanL okB L 0 = i - a := by
                      rw [HOK.out]
                      refine spanL_stop hiL ?_
                      rw [hby]
                      unfold okB
                      rw [hv, hbk]
                      rfl
                    have := lineS_bad HN.out HNE.out (by omega) (k := i - a) (by rw [HLD.out]; exact h1) (by omega)
                    rw [this, HLD.out, show (a : Int) + ((i - a : Nat) : Int) = (i : Int) by omega]) (by decide)) (by decide))
                  have HV := Lib.hid hv
                  have HB := Lib.hid hbk
                  clear hv hbk hby HERR HGO
                  rcases hcol with ⟨rfl, _⟩ | ⟨d, rfl, _, _, _⟩
                  all_goals
                    go_wp2_with (first
                      | (go_at_call 54; refine (rvisible_any _ _).mono ?_; rintro e w' ⟨rfl, rfl⟩; simp only [HV.out])
                      | (go_at_call 51; refine (rblank_any _ _).mono ?_; rintro e w' ⟨rfl, rfl⟩; simp only [HB.out]))
                    go_ret3
                    exact rparse_none HBAD.out HBL.out
                have HBI := Lib.hid hB
                have HOK2 : Hid (spanL okB L 0 = spanL okB L (i + 1 - a)) := Lib.hid (by
                  rw [HOK.out, ← hsi.out]
                  exact spanL_step hiL (by rw [hby]; exact hbx))
                clear hB hbx
                cases hv : visB text[i]
                all_goals
                  (try have HB := Lib.hid (HBI.out hv))
                  have HV := Lib.hid hv
                  clear hv
                  by_cases h58 : text[i] = 58
                  · have hb58 : ((text[i].toNat : Int) == 58) = true := by rw [h58]; rfl
                    rcases hcol with ⟨rfl, HC⟩ | ⟨d, rfl, hd1, hd2, HC⟩
                    · have HC2 : Hid (spanL (neB 58) L 0 = i - a) := Lib.hid (by
                        rw [HC.out]
                        refine spanL_stop hiL ?_
                        rw [hby, h58]
                        rfl)
                      clear h58 hby
                      go_wp2_with (first
                        | (go_at_call 54; refine (rvisible_any _ _).mono ?_; rintro e w' ⟨rfl, rfl⟩; simp only [HV.out])
                        | (go_at_call 51; refine (rblank_any _ _).mono ?_; rintro e w' ⟨rfl, rfl⟩; simp only [HB.out]))
                      go_round
                      case rel => exact ⟨i + 1, by omega, by omega, by go_num, HOK2, .inr ⟨i, rfl, hi1, by omega, HC2⟩⟩
                      case measure => simp [RowKit.intOf]; omega
                    · clear h58 hby
                      go_wp2_with (first
                        | (go_at_call 54; refine (rvisible_any _ _).mono ?_; rintro e w' ⟨rfl, rfl⟩; simp only [HV.out])
                        | (go_at_call 51; refine (rblank_any _ _).mono ?_; rintro e w' ⟨rfl, rfl⟩; simp only [HB.out]))
                      go_round
                      case rel => exact ⟨i + 1, by omega, by omega, by go_num, HOK2, .inr ⟨d, rfl, hd1, by omega, HC⟩⟩
                      case measure => simp [RowKit.intOf]; omega
                  · have hb58 : ((text[i].toNat : Int) == 58) = false := eq_byte h58
                    have hcol2 : Hid (∀ c : Value, ((c = .int .i64 (-1) ∧ Hid (spanL (neB 58) L 0 = spanL (neB 58) L (i - a))) ∨ ∃ d : Nat, c = .int .i64 d ∧ a ≤ d ∧ d < i ∧ Hid (spanL (neB 58) L 0 = d - a)) → ((c = .int .i64 (-1) ∧ Hid (spanL (neB 58) L 0 = spanL (neB 58) L (i + 1 - a))) ∨ ∃ d : Nat, c = .int .i64 d ∧ a ≤ d ∧ d < i + 1 ∧ Hid (spanL (neB 58) L 0 = d - a))) := Lib.hid (by
                      rintro c (⟨e, HC⟩ | ⟨d, e, h1, h2, h3⟩)
                      · refine .inl ⟨e, Lib.hid ?_⟩
                        rw [HC.out, ← hsi.out]
                        refine spanL_step hiL ?_
                        rw [hby]
                        exact ne_of_ne h58
                      · exact .inr ⟨d, e, h1, by omega, h3⟩)
                    have hcolH := Lib.hid (hcol2.out _ hcol)
                    clear h58 hby hcol hcol2
                    go_wp2_with (first
                      | (go_at_call 54; refine (rvisible_any _ _).mono ?_; rintro e w' ⟨rfl, rfl⟩; simp only [HV.out])
                      | (go_at_call 51; refine (rblank_any _ _).mono ?_; rintro e w' ⟨rfl, rfl⟩; simp only [HB.out]))
                    go_round
                    case rel => exact ⟨i + 1, by omega, by omega, by go_num, HOK2, hcolH.out⟩
                    case measure => simp [RowKit.intOf]; omega
              · have hie : i - a = L.length := by rw [HLN.out]; omega
                have HOKL : Hid (lineS l a = (L, (0, 0))) := Lib.hid (by
                  have h1 : spanL okB ((l.drop a).take (q - a)) 0 = q - a := by
                    rw [HLD.out, HOK.out, hie, spanL_end (Nat.le_refl _), HLN.out]
                  have := lineS_ok HN.out HNE.out (by omega) h1
                  rw [this, HLD.out])
                have hct : (contB L = true ∧ ∃ h : a < text.size, a < q ∧ blkB text[a] = true) ∨ (contB L = false ∧ (q ≤ a ∨ ∃ h : a < text.size, a < q ∧ blkB text[a] = false)) := by
                  by_cases haq : a < q
                  · have h4 : a - a < L.length := by rw [HLN.out]; omega
                    have h5 := HLB.out a (Nat.le_refl _) haq hlt h4
                    have h6 : contB L = blkB text[a] := by
                      rw [← h5]
                      exact contB_first L (a - a) (Nat.sub_self a) h4
                    cases h7 : blkB text[a]
                    · exact .inr ⟨by rw [h6, h7], .inr ⟨hlt, haq, h7⟩⟩
                    · exact .inl ⟨by rw [h6, h7], hlt, haq, h7⟩
                  · exact .inr ⟨by
                      have : L = [] := List.eq_nil_of_length_eq_zero (by rw [HLN.out]; omega)
                      rw [this]; rfl, .inl (by omega)⟩
                clear hie HOK
                rcases hct with ⟨hc, _, haq, hbk⟩ | ⟨hc, hcq⟩
                · have HCT := Lib.hid hc
                  have HB := Lib.hid hbk
                  clear hc hbk hcol
                  by_cases hnf0 : nf = 0
                  · have hfs : fs = [] := List.eq_nil_of_length_eq_zero (HNF.out.trans hnf0)
                    have HF := Lib.hid (HERR.out a 3 (by rw [hfs]; exact one_cont0 HOKL.out HCT.out) (by decide))
                    have e0 : ((nf : Int) == 0) = true := beq_iff_eq.2 (by omega)
                    clear hfs HERR HGO hnf0
                    go_wp2_with fail
                    refine (rblank_any _ _).mono ?_
                    rintro e w' ⟨rfl, rfl⟩
                    simp only [HB.out]
                    go_wp2
                    go_ret3
                    exact rparse_none HF.out HBL.out
                  · obtain ⟨n0, rfl⟩ : ∃ n0, nf = n0 + 1 := ⟨nf - 1, by omega⟩
                    have hfs : ∃ fs0 nm b, fs = fs0 ++ [(nm, b)] := by
                      rcases List.eq_nil_or_concat fs with h | ⟨fs0, ⟨nm, b⟩, h⟩
                      · rw [h] at HNF
                        exact absurd HNF.out (by simp)
                      · exact ⟨fs0, nm, b, by rw [h, List.concat_eq_append]⟩
                    obtain ⟨fs0, nm, b, rfl⟩ := hfs
                    have HN0 : Hid (fs0.length = n0) := Lib.hid (by have := HNF.out; rw [List.length_append, List.length_singleton] at this; omega)
                    have hA5 : ∃ gb, A5 = some ⟨gb, 0, none⟩ := by
                      have h1 := HO.out
                      rw [← HNF.out] at h1
                      obtain ⟨gb, cap', he, _⟩ := own_fields h1 (by simp)
                      injection he with he1 _ _
                      exact ⟨gb, he1⟩
                    obtain ⟨gb, rfl⟩ := hA5
                    have HOW := HO
                    have HONE := Lib.hid (one_cont (fs := fs0) (n := nm) (b := b) HOKL.out HCT.out)
                    have hb8 : b.length ≤ 8192 := HG.out.body (nm, b) (by simp)
                    have HSB : Hid (joinW (wordsL b) = b) := Lib.hid (HSQ.out (nm, b) (by simp))
                    have HGB : Hid (∀ f ∈ fs0, f.2.length ≤ 8192) := Lib.hid fun f hf => HG.out.body f (by simp [hf])
                    have HSQ2 : Hid (Sq fs0) := Lib.hid fun f hf => HSQ.out f (by simp [hf])
                    have e0 : (((n0 + 1 : Nat) : Int) == 0) = false := beq_eq_false_iff_ne.2 (by omega)
                    have e0' : (((n0 : Int) + 1) == 0) = false := beq_eq_false_iff_ne.2 (by omega)
                    clear hnf0 HG HSQ HO
                    go_wp2_with fail
                    refine (rblank_any _ _).mono ?_
                    rintro e w' ⟨rfl, rfl⟩
                    simp only [HB.out]
                    obtain ⟨hgb, hgbB, cb, fb⟩ := own_last (n := n0 + 1) (by rw [HN0.out]) HOW.out
                    rw [HN0.out] at cb fb
                    unfold strV at cb
                    have i1 : (0 : Int) ≤ (n0 : Int) := Int.natCast_nonneg _
                    have CA : Hid (Calls Try.prog 55 #[.string (bsOf b), .string text, .int .i64 ((a : Int)), .int .i64 q] wr fun e w' => wr = w' ∧ ∃ (b' : List UInt8) (bad : Int), e = .returned (.tuple #[.string (bsOf b'), .int .i64 bad]) ∧
                        ((0 ≤ bad ∧ (bodyS a b L (0)).2 = (bad, 5)) ∨
                         (bad = -1 ∧ b' = (bodyS a b L (0)).1 ∧ ((8192 < b'.length ∧ (bodyS a b L (0)).2 = ((a : Int), 5)) ∨ (b'.length ≤ 8192 ∧ (bodyS a b L (0)).2 = (0, 0)))))) := Lib.hid (by
                      have hT : (text.data.toList.take q).drop a = L := by rw [HL.out, List.drop_take]; exact HLD.out
                      have := (radd_any (ws := wordsL b) text (a + (0)) q wr (wordsL_words _) (by omega) hq2 hs (by rw [HSB.out]; omega)).mono fun e w' h => add_body (b := b) hT wr h
                      rw [HSB.out] at this
                      have e : ((a + (0) : Nat) : Int) = (a : Int) := by omega
                      rw [e] at this
                      exact this)
                    go_wp2_with fail
                    refine CA.out.mono ?_
                    rintro e w1 ⟨rfl, b', bad, rfl, hcase⟩
                    have hbz : (bsOf b').size ≤ b'.length ∧ b'.length ≤ (bsOf b').size := by rw [bsOf_size]; omega
                    obtain ⟨hbz1, hbz2⟩ := hbz
                    rcases hcase with ⟨h0, hS⟩ | ⟨rfl, hb', ⟨h8, hS⟩ | ⟨h8, hS⟩⟩
                    · have HF := Lib.hid (HERR.out bad 5 (by rw [HONE.out]; exact hS) (by decide))
                      clear hS CA HERR HGO
                      go_wp2
                      go_ret3
                      exact rparse_none HF.out HBL.out
                    · have HF := Lib.hid (HERR.out a 5 (by rw [HONE.out]; exact hS) (by decide))
                      clear hS CA HERR HGO hb'
                      go_wp2
                      go_ret3
                      exact rparse_none HF.out HBL.out
                    · have HNX := Lib.hid (HGO.out _ _ (by rw [HONE.out, hS]) (by omega))
                      have HSET := Lib.hid (own_setLast HOW.out b')
                      have HSQ3 : Hid (joinW (wordsL b') = b') := Lib.hid (by rw [hb']; exact bodyS_sq)
                      have HBE := Lib.hid hb'
                      clear hS CA HERR HGO hb'
                      go_wp2
                      go_roundw
                      case rel =>
                        obtain ⟨k', hk1, hk2⟩ := HNX.out
                        rw [← HBE.out] at hk2
                        refine ⟨a + (L.length + 1), k', _, by rw [HLN.out]; (congr 1; omega), by rw [HLN.out, HLL.out]; omega, hk1, hk2, ⟨by rw [List.length_append, HN0.out, List.length_singleton]; omega, ?_⟩, ?_, ?_, HBL.out.setCell hgbB _⟩
                        · intro f hf
                          rcases List.mem_append.1 hf with hf | hf
                          · exact HGB.out f hf
                          · rw [List.mem_singleton] at hf; subst hf; exact h8
                        · intro f hf
                          rcases List.mem_append.1 hf with hf | hf
                          · exact HSQ2.out f hf
                          · rw [List.mem_singleton] at hf; subst hf; exact HSQ3.out
                        · rw [List.length_append, HN0.out, List.length_singleton]
                          have := HSET.out
                          rw [HN0.out] at this
                          exact this
                      case measure => simp [RowKit.intOf]; omega
                · have HCT := Lib.hid hc
                  clear hc
                  rcases hcol with ⟨rfl, HC⟩ | ⟨d, rfl, hd1, hd2, HC⟩
                  · have HF := Lib.hid (HERR.out a 3 (one_none HOKL.out HCT.out (by rw [HC.out, show i - a = L.length by rw [HLN.out]; omega]; exact spanL_end (Nat.le_refl _))) (by decide))
                    clear HERR HGO
                    rcases hcq with hcq | ⟨_, haq, hbk⟩
                    · go_wp2
                      go_ret3
                      exact rparse_none HF.out HBL.out
                    · have HB := Lib.hid hbk
                      clear hbk
                      go_wp2_with (go_at_call 51; refine (rblank_any _ _).mono ?_; rintro e w' ⟨rfl, rfl⟩; simp only [HB.out])
                      go_ret3
                      exact rparse_none HF.out HBL.out
                  rcases hcq with hcq | ⟨_, haq, hbk⟩
                  · exfalso; omega
                  have HB := Lib.hid hbk
                  clear hbk
                  have hdq : d < q := by omega
                  have hdL : d - a < L.length := by rw [HLN.out]; omega
                  obtain ⟨nm, hnm⟩ : ∃ nm, L.take (d - a) = nm := ⟨_, rfl⟩
                  have HNM := Lib.hid hnm
                  have hX : text.extract a d = bsOf nm := by
                    have h1 := HEXT.out a d
                    have h2 : (l.drop a).take (d - a) = nm := by rw [← hnm, ← HLD.out, List.take_take, Nat.min_eq_left (by omega)]
                    rw [h2] at h1
                    unfold strV at h1
                    injection h1
                  have HX := Lib.hid hX
                  have hnl : nm.length = d - a := by rw [← hnm, List.length_take]; omega
                  have hex : (bsOf nm).size ≤ 1000000 := by rw [bsOf_size, hnl]; omega
                  have CV := Lib.hid (rvalid_any (bsOf nm) wr hex)
                  rw [bsOf_data] at CV
                  have hdd : ¬ ((d : Int) < 0) := by omega
                  clear hnm hX hnl
                  cases hv : validB nm
                  · have HF := Lib.hid (HERR.out a 12 (one_name HOKL.out HCT.out HC.out hdL (by rw [HNM.out]; exact hv)) (by decide))
                    rw [hv] at CV
                    clear hv HERR HGO
                    go_wp2_with fail
                    refine (rblank_any _ _).mono ?_
                    rintro e w' ⟨rfl, rfl⟩
                    simp only [HB.out]
                    go_wp2_with fail
                    rw [HX.out]
                    refine CV.out.mono ?_
                    rintro e w' ⟨rfl, rfl⟩
                    go_wp2
                    go_ret3
                    exact rparse_none HF.out HBL.out
                  by_cases h64 : nf = 64
                  · have HF := Lib.hid (HERR.out a 9 (one_full HOKL.out HCT.out HC.out hdL (by rw [HNM.out]; exact hv) (HNF.out.trans h64)) (by decide))
                    have e0 : ((nf : Int) == 64) = true := beq_iff_eq.2 (by omega)
                    rw [hv] at CV
                    clear hv HERR HGO h64
                    go_wp2_with fail
                    refine (rblank_any _ _).mono ?_
                    rintro e w' ⟨rfl, rfl⟩
                    simp only [HB.out]
                    go_wp2_with fail
                    rw [HX.out]
                    refine CV.out.mono ?_
                    rintro e w' ⟨rfl, rfl⟩
                    go_wp2
                    go_ret3
                    exact rparse_none HF.out HBL.out
                  · have HONE := Lib.hid (one_new (fs := fs) HOKL.out HCT.out HC.out hdL (by rw [HNM.out]; exact hv) (by rw [HNF.out]; exact h64))
                    rw [HNM.out] at HONE
                    have e0 : ((nf : Int) == 64) = false := beq_eq_false_iff_ne.2 (by omega)
                    rw [hv] at CV
                    clear hv
                    go_wp2_with fail
                    refine (rblank_any _ _).mono ?_
                    rintro e w' ⟨rfl, rfl⟩
                    simp only [HB.out]
                    go_wp2_with fail
                    rw [HX.out]
                    refine CV.out.mono ?_
                    rintro e w' ⟨rfl, rfl⟩
                    have HK0 := Lib.hid ((Kept.refl (fun _ => False) wr).alloc (.cells #[.string (text.extract a d), .string ⟨#[]⟩] 25))
                    go_wp2_with (at_builtin; refine wpList_append_lies _ rfl _ _ 26 rfl w.heap.size 25 i0 (.agg #[.string ⟨#[]⟩, .string ⟨#[]⟩]) 2 32 Try.underlying26 HI.out HZ0.out HZ1.out HZ2.out rfl (by decide) (.slice A5 nf cap5) nf _ rfl (own_kept HO.out HK0.out (fun _ _ f => f)) ⟨wr.heap.size, 0, none⟩ 1 1 [.string (text.extract a d), .string ⟨#[]⟩] rfl rfl (new_cells2' _ _ _ _) (one_two _ _) (by decide) (by unfold maxLen; omega) (by omega) (by simp; omega) (wr.heap.size + 1) (by simp) ?_; intro gb cap4 w3 hown3 hgrow3 hlies3 hlt3; have HOW := Lib.hid (own_pushed hown3 HX.out); obtain ⟨hgb, hgbB, cb, fb⟩ := own_last (n := nf + 1) (by rw [HNF.out]) HOW.out; rw [HNF.out] at cb fb; unfold strV at cb; have i1 : (0 : Int) ≤ (nf : Int) := Int.natCast_nonneg _; have HB3 := Lib.hid (HBL.out.trans ((HK0.out.mono (G := fun j => Value.ownBlock (.slice A5 nf cap5) = some j) (fun _ _ f => f.elim)).grown hgrow3 (fun j _ e => e)|>.toBelow (fun j f => (own_lt HO.out j f).1) hwr)); clear hown3 hgrow3 hlies3; skip)

                    have HN0 := HNF
                    have HSB : Hid (joinW (wordsL []) = []) := Lib.hid rfl
                    have hb8 : ([] : List UInt8).length ≤ 8192 := Nat.zero_le _
                    have HGB : Hid (∀ f ∈ fs, f.2.length ≤ 8192) := Lib.hid HG.out.body
                    have HSQ2 := HSQ
                    clear HO HG HSQ
                    have CA : Hid (Calls Try.prog 55 #[.string (bsOf []), .string text, .int .i64 ((d : Int) + 1), .int .i64 q] w3 fun e w' => w3 = w' ∧ ∃ (b' : List UInt8) (bad : Int), e = .returned (.tuple #[.string (bsOf b'), .int .i64 bad]) ∧
                        ((0 ≤ bad ∧ (bodyS a [] L (d - a + 1)).2 = (bad, 5)) ∨
                         (bad = -1 ∧ b' = (bodyS a [] L (d - a + 1)).1 ∧ ((8192 < b'.length ∧ (bodyS a [] L (d - a + 1)).2 = ((a : Int), 5)) ∨ (b'.length ≤ 8192 ∧ (bodyS a [] L (d - a + 1)).2 = (0, 0)))))) := Lib.hid (by
                      have hT : (text.data.toList.take q).drop a = L := by rw [HL.out, List.drop_take]; exact HLD.out
                      have := (radd_any (ws := wordsL []) text (a + (d - a + 1)) q w3 (wordsL_words _) (by omega) hq2 hs (by rw [HSB.out]; omega)).mono fun e w' h => add_body (b := []) hT w3 h
                      rw [HSB.out] at this
                      have e : ((a + (d - a + 1) : Nat) : Int) = (d : Int) + 1 := by omega
                      rw [e] at this
                      exact this)
                    go_wp2_with fail
                    refine CA.out.mono ?_
                    rintro e w1 ⟨rfl, b', bad, rfl, hcase⟩
                    have hbz : (bsOf b').size ≤ b'.length ∧ b'.length ≤ (bsOf b').size := by rw [bsOf_size]; omega
                    obtain ⟨hbz1, hbz2⟩ := hbz
                    rcases hcase with ⟨h0, hS⟩ | ⟨rfl, hb', ⟨h8, hS⟩ | ⟨h8, hS⟩⟩
                    · have HF := Lib.hid (HERR.out bad 5 (by rw [HONE.out]; exact hS) (by decide))
                      clear hS CA HERR HGO
                      go_wp2
                      go_ret3
                      exact rparse_none HF.out HB3.out
                    · have HF := Lib.hid (HERR.out a 5 (by rw [HONE.out]; exact hS) (by decide))
                      clear hS CA HERR HGO hb'
                      go_wp2
                      go_ret3
                      exact rparse_none HF.out HB3.out
                    · have HNX := Lib.hid (HGO.out _ _ (by rw [HONE.out, hS]) (by omega))
                      have HSET := Lib.hid (own_setLast HOW.out b')
                      have HSQ3 : Hid (joinW (wordsL b') = b') := Lib.hid (by rw [hb']; exact bodyS_sq)
                      have HBE := Lib.hid hb'
                      clear hS CA HERR HGO hb'
                      go_wp2
                      go_roundw
                      case rel =>
                        obtain ⟨k', hk1, hk2⟩ := HNX.out
                        rw [← HBE.out] at hk2
                        refine ⟨a + (L.length + 1), k', _, by rw [HLN.out]; (congr 1; omega), by rw [HLN.out, HLL.out]; omega, hk1, hk2, ⟨by rw [List.length_append, HN0.out, List.length_singleton]; omega, ?_⟩, ?_, ?_, HB3.out.setCell hgbB _⟩
                        · intro f hf
                          rcases List.mem_append.1 hf with hf | hf
                          · exact HGB.out f hf
                          · rw [List.mem_singleton] at hf; subst hf; exact h8
                        · intro f hf
                          rcases List.mem_append.1 hf with hf | hf
                          · exact HSQ2.out f hf
                          · rw [List.mem_singleton] at hf; subst hf; exact HSQ3.out
                        · rw [List.length_append, HN0.out, List.length_singleton]
                          have := HSET.out
                          rw [HN0.out] at this
                          exact this
                      case measure => simp [RowKit.intOf]; omega
          · obtain rfl : q = text.size := by omega
            have HE2 : Hid (parseS l = ([], ((text.size : Int), (4 : Int)))) := Lib.hid (HERR.out _ _ (one_line (L := []) (by
              have h1 : spanL nlB l a = text.size := by rw [HS.out]; exact spanL_end (by rw [HLL.out]; exact Nat.le_refl _)
              have h2 := spanL_drop0 nlB l a
              have := lineS_none (text := l) (a := a) (by rw [List.length_drop, HLL.out]; omega)
              rw [this, HLL.out]) (by decide)) (by decide))
            clear HERR HGO HS hq
            go_wp2
            go_ret3
            exact rparse_none HE2.out HBL.out
    · obtain rfl : a = text.size := by omega
      have HT2 : Hid (parseS l = (fs, (0, 0))) := Lib.hid (by
        rw [← HP.out]
        cases k with
        | zero => rfl
        | succ k' => rw [parseL, if_neg (by rw [HLL.out]; omega)])
      go_wp2
      go_ret3
      refine ⟨_, by rw [HT2.out]; rfl, ?_, HBL.out⟩
      rw [HT2.out, HNF.out]
      exact HO.out
end Go.Proofs.Ytknamddpflkifaa
