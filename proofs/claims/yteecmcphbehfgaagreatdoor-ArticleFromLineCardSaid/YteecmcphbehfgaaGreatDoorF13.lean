/- The parser's body over this translation: the words of a part of a line added to the last field.
   Conditions: texts of at most 1000000 bytes. -/
import Derived.Test.YteecmcphbehfgaaGreatDoorF12
import Derived.Laws.AppendOwnNone
namespace Go.Proofs.YteecmcphbehfgaaGreatDoor
open Go.RowKit Go.Lib

/-- What the last field's cells hold. -/
structure LastAt (p gb n : Nat) (cap : Nat) (b : List UInt8) (w : World) : Prop where
  c2 : w.cell? ⟨p, 2, none⟩ = some (.slice (some ⟨gb, 0, none⟩) (n + 1) cap)
  cb : w.cell? ⟨gb, n * 2 + 1, none⟩ = some (strV b)
  fb : w.frozen? ⟨gb, n * 2 + 1, none⟩ = false
  ne : gb ≠ p
theorem PSt.last {B p : Nat} {text : ByteArray} {at' : Nat} {fs0 : List (List UInt8 × List UInt8)} {nm b : List UInt8} {st : Int × Int} {g : Option Nat} {w : World} (h : PSt B p text at' (fs0 ++ [(nm, b)]) st g w) :
    ∃ gb cap, g = some gb ∧ LastAt p gb fs0.length cap b w := by
  obtain ⟨hB, v, h1, h2, rfl⟩ := h
  have hne := own_ne h2 h1 (by decide)
  rcases h2.2 with ⟨_, h0⟩ | ⟨gb, cap, cur, rfl, hBg, hg, hnc, _, hcs, ht⟩
  · simp at h0
  · have hl : (fs0 ++ [(nm, b)]).length = fs0.length + 1 := by simp
    have hcb : cur[fs0.length * 2 + 1]? = some (strV b) := by
      have e : (cellsF (fs0 ++ [(nm, b)]))[fs0.length * 2 + 1]? = some (strV b) := by
        rw [cellsF_append, List.getElem?_append_right (by rw [cellsF_len]; omega), cellsF_len, show fs0.length * 2 + 1 - 2 * fs0.length = 1 by omega]
        rfl
      rw [← e, ← ht, List.getElem?_take, if_pos (by rw [hl]; omega), ← Array.getElem?_toList]
    refine ⟨gb, cap, rfl, ?_, ?_, ?_, fun e => hne (by rw [e]; rfl)⟩
    · rw [Lib.cell_of_heap h1, ← hl]; rfl
    · rw [Lib.cell_of_heap hg]; exact hcb
    · exact Lib.frozen_of_heap hg _
/-- The last field's body turned. -/
theorem PSt.setBody {B p : Nat} {text : ByteArray} {at' : Nat} {fs0 : List (List UInt8 × List UInt8)} {nm b : List UInt8} {st : Int × Int} {gb : Nat} {w : World} (h : PSt B p text at' (fs0 ++ [(nm, b)]) st (some gb) w) (b' : List UInt8) :
    PSt B p text at' (fs0 ++ [(nm, b')]) st (some gb) (w.setCell ⟨gb, fs0.length * 2 + 1, none⟩ (strV b')) := by
  obtain ⟨hB, v, h1, h2, hv⟩ := h
  have hne := own_ne h2 h1 (by decide)
  rcases h2.2 with ⟨_, h0⟩ | ⟨gb', cap, cur, rfl, hBg, hg, hnc, _, hcs, ht⟩
  · simp at h0
  · injection hv with hv
    have hv' : gb' = gb := hv
    subst hv'
    refine ⟨hB, _, (Below.heap_setCell _ _ _ _ (fun e => hne (by rw [e]; rfl))).trans h1, ?_, rfl⟩
    have hs := own_set h2 (i := fs0.length * 2 + 1) (by rw [cellsF_len]; simp; omega) (strV b')
    rw [Nat.mul_comm, cellsF_last] at hs
    have hl : (fs0 ++ [(nm, b')]).length = (fs0 ++ [(nm, b)]).length := by simp
    rw [hl, Nat.mul_comm]
    exact hs

theorem lensW_append (a b : List (List UInt8)) : lensW (a ++ b) = lensW a + lensW b := by simp [lensW]
/-- What the joined words are good for. -/
structure Joined (at' : Nat) (b l : List UInt8) (fr : Nat) (pl0 : Int) (st : Int × Int) (wz : List (List UInt8)) : Prop where
  fst : (bodyS at' b l fr).1 = joinW wz
  long : 8192 < (joinW wz).length → failS st at' 5 = stOf pl0 (bodyS at' b l fr).2
  short : ¬ 8192 < (joinW wz).length → st = stOf pl0 (bodyS at' b l fr).2
  size : lensW wz + wz.length ≤ 1900000
theorem add0 (g j : Nat) : (⟨g, 0, none⟩ : Addr).add j = ⟨g, j, none⟩ := by
  cases j with
  | zero => rfl
  | succ j => show (⟨g, 0 + (j + 1), none⟩ : Addr) = _; rw [Nat.zero_add]

/-- What holds at the head of a round of body. -/
def BRel (B p gb : Nat) (text : ByteArray) (at' : Nat) (fs : List (List UInt8 × List UInt8)) (pl0 : Int) (l : List UInt8) (ws : List (List UInt8)) (fr : Nat) (w1 : World) (v8 v29 : Value) (wr : World) : Prop :=
  ∃ (k a : Nat) (st : Int × Int), k ≤ ws.length ∧ v29 = .int .i64 k ∧ v8 = .int .i64 a ∧ a ≤ l.length ∧ wordsG (l.drop a) [] = ws.drop k ∧ PSt B p text at' fs st (some gb) wr ∧ Kept (fun k => k = p) w1 wr ∧
    ((∃ s : Nat, longP l ws fr = some s ∧ st = ((at' : Int) + s, (5 : Int))) ∨ (st = (pl0, 0) ∧ longP l ws fr = longP l (ws.drop k) a))

set_option maxRecDepth 10000 in
set_option maxHeartbeats 2000000 in
theorem body_any {B p : Nat} {text : ByteArray} {at' : Nat} {fs0 : List (List UInt8 × List UInt8)} {nm b : List UInt8} {pl0 : Int} {g : Option Nat} {w : World} (h : PSt B p text at' (fs0 ++ [(nm, b)]) (pl0, 0) g w) (line : ByteArray) (fr : Nat) (m : Int)
    (hfr : fr ≤ line.size) (hl : line.size ≤ 1000000) (hb : b.length ≤ 500000) (ha : at' ≤ 1000000) (hf : fs0.length ≤ 1000) (hm : w.cell? ⟨0, 0, none⟩ = some (.int .i64 m)) (hB : 0 < B) :
    Calls Tryz.prog 118 #[.pointer (some ⟨p, 0, none⟩), .string line, .int .i64 fr] w fun r w' => r = .returned (.tuple #[]) ∧ PSt B p text at' (fs0 ++ [(nm, (bodyS at' b line.data.toList fr).1)]) (stOf pl0 (bodyS at' b line.data.toList fr).2) g w' ∧
      Kept (fun k => k = p ∨ g = some k) w w' := by
  obtain ⟨gb, cap, rfl, c2, cb, fb, hgp⟩ := h.last
  obtain ⟨i0, hi, hz0, hz1, hz2⟩ := info_parts Tryz.str_info
  have HI := Lib.hid hi
  have HZ0 := Lib.hid hz0
  have HZ1 := Lib.hid hz1
  have HZ2 := Lib.hid hz2
  clear hi hz0 hz1 hz2
  have hn1 : ((fs0.length : Int) + 1 - 1) = fs0.length := by omega
  go_enter Tryz.func118, Tryz.ntmps118
  go_wp2
  go_region
  have HKd : Kept (fun _ => False) w w.drew := (Kept.refl (fun _ => False) w).drew
  have H1 := Lib.hid (h.kept HKd (fun f => f) (fun _ _ f => f))
  have hm1 : w.drew.cell? ⟨0, 0, none⟩ = some (.int .i64 m) := hm
  have HKD := Lib.hid HKd
  clear h c2 cb fb hm hn1 HKd
  generalize w.drew = wd at H1 hm1 HKD ⊢
  have hR : (line.extract fr line.size).data.toList = line.data.toList.drop fr := by
    rw [ByteArray.data_extract, Array.toList_extract]
    show List.take (line.data.size - fr) _ = _
    rw [List.take_of_length_le (by simp)]
  have hll : line.data.toList.length = line.size := by simp
  have CW := words_any (line.extract fr line.size) wd (by simp; omega)
  rw [hR] at CW
  unfold WordsPost at CW
  obtain ⟨ws, hws⟩ : ∃ ws, wordsL (line.data.toList.drop fr) = ws := ⟨_, rfl⟩
  rw [hws] at CW
  have hwb := words_both (line.data.toList.drop fr)
  rw [hws, List.length_drop, hll] at hwb
  have CW := Lib.hid CW
  have HWS := Lib.hid hws
  have HLL := Lib.hid hll
  clear hR hws hll
  go_wp2_with fail
  refine CW.out.mono ?_
  rintro e w1 ⟨v1, rfl, hown, hbl⟩
  have hp1 := H1.out.lt
  have HP1 := Lib.hid (H1.out.kept (kept_of_below hbl) (fun f => f) (fun _ _ f => f))
  have HK1 := Lib.hid (HKD.out.trans (kept_of_below hbl) (fun _ _ f => f))
  have hm2 : w1.cell? ⟨0, 0, none⟩ = some (.int .i64 m) := ((bcell hbl).1 _ _ (by omega)).trans hm1
  have HO1 := Lib.hid hown
  obtain ⟨A1, cap1, rfl⟩ := own_shape hown
  have hwdle := hbl.size
  clear hown hbl CW hm1
  go_wp2_with fail
  go_loopw [8, 10, 29] (fun a _ v wr => BRel B p gb text at' (fs0 ++ [(nm, b)]) pl0 line.data.toList ws fr w1 a v wr) (fun _ _ v _ => ws.length - (RowKit.intOf v).toNat)
  case atStart => exact ⟨0, fr, _, Nat.zero_le _, rfl, rfl, by rw [HLL.out]; exact hfr, by rw [List.drop_zero]; exact HWS.out, HP1.out, Kept.refl _ _, .inr ⟨rfl, rfl⟩⟩
  case round =>
    obtain ⟨k, a, st, hk, rfl, rfl, ha2, hw, hP, hKp, hst⟩ := hrel
    have HOr := Lib.hid (own_kept HO1.out hKp (fun j e f => by have f' : j = p := f; have := (own_lt HO1.out j e).1; omega))
    have hm3 : wr.cell? ⟨0, 0, none⟩ = some (.int .i64 m) := (hKp.cell (p := ⟨0, 0, none⟩) (by show 0 < w1.heap.size; omega) (by
      intro f
      have f' : 0 = p := f
      have := HP1.out.base
      omega)).trans hm2
    obtain ⟨q0, q1, q3, q4, r1, r2, r3, r4⟩ := hP.cells
    have HP := Lib.hid hP
    have HKp := Lib.hid hKp
    have HST := Lib.hid hst
    have HW := Lib.hid hw
    clear hP hKp hst q0 q3 q4 r1 r2 r3 r4 hw
    by_cases hlt : k < ws.length
    · obtain ⟨g0, cap', he, hBg, hg0, hc0, hcell⟩ := own_cell HOr.out (by omega)
      injection he with he1 _ he2
      subst he1; subst he2
      have ck := hcell k (.string (bsOf ws[k])) (by rw [List.getElem?_map, List.getElem?_eq_getElem hlt]; rfl)
      clear hcell
      obtain ⟨n1, n2, n3, n4⟩ := next_word ha2 (HW.out.trans (List.drop_eq_getElem_cons hlt))
      have hge := spanL_ge blkB line.data.toList a
      obtain ⟨q, hq⟩ : ∃ q : Nat, spanL blkB line.data.toList a = a + q := ⟨spanL blkB line.data.toList a - a, by omega⟩
      rw [HLL.out] at ha2 n1 n4
      have hRa : (line.extract a line.size).data.toList = line.data.toList.drop a := by
        rw [ByteArray.data_extract, Array.toList_extract]
        show List.take (line.data.size - a) _ = _
        rw [List.take_of_length_le (by simp)]
      have CI := Tryz.strings_Index (line.extract a line.size) (bsOf ws[k]) m wr (by simp; omega) hm3
      rw [hRa, bsOf_data, n3, hq, show (((a + q : Nat) : Int) - a) = q by omega] at CI
      have CI : Hid (Calls Tryz.prog 65 #[.string (line.extract a line.size), .string (bsOf ws[k])] wr fun e w' => e = .returned (.int .i64 q) ∧ wr = w') := Lib.hid (CI.mono fun _ _ h => ⟨h.1, h.2.symm⟩)
      have hz := Lib.hid (bsOf_size ws[k])
      have hzle : (bsOf ws[k]).size ≤ 1000000 := by rw [bsOf_size]; omega
      rw [hq] at n1 n2
      have N2 := Lib.hid n2
      have hdk := Lib.hid (List.drop_eq_getElem_cons hlt)
      have HQ := Lib.hid hq
      have CL := Lib.hid (long_any ws[k] wr)
      have hql : a + q ≤ line.size := by omega
      have hnew : Hid (a + q + (bsOf ws[k]).size ≤ line.data.toList.length) := Lib.hid (by rw [hz.out, HLL.out]; exact n1)
      unfold strV at CL
      clear n1 n2 n3 hq hRa hge
      cases hlb : longB ws[k]
      · rw [hlb] at CL
        have HLB := Lib.hid hlb
        clear hlb
        go_wp2_with (first
          | (go_at_call 65; refine CI.out.mono ?_; rintro e w' ⟨rfl, rfl⟩)
          | (go_at_call 123; refine CL.out.mono ?_; rintro e w' ⟨rfl, rfl⟩))
        go_roundw
        case rel =>
          refine ⟨k + 1, a + q + (bsOf ws[k]).size, st, by omega, by go_num, by go_num, hnew.out, by rw [hz.out]; exact N2.out, HP.out, HKp.out, ?_⟩
          rcases HST.out with h | ⟨h1, h2⟩
          · exact .inl h
          · refine .inr ⟨h1, h2.trans ?_⟩
            rw [hdk.out, longP, if_neg (by rw [HLB.out]; decide), HQ.out, hz.out]
        case measure => simp [RowKit.intOf]; omega
      · rw [hlb] at CL
        have HLB := Lib.hid hlb
        clear hlb
        go_wp2_with (first
          | (go_at_call 65; refine CI.out.mono ?_; rintro e w' ⟨rfl, rfl⟩)
          | (go_at_call 123; refine CL.out.mono ?_; rintro e w' ⟨rfl, rfl⟩)
          | (go_at_call 117; refine (fail_any HP.out ((at' : Int) + (a + q)) 5).mono ?_; rintro e w4 ⟨rfl, h4, hk4⟩; have H4 := Lib.hid h4; have HK4 := Lib.hid (HKp.out.trans hk4 (fun _ _ f => f)); clear h4 hk4))
        go_roundw
        case rel =>
          refine ⟨k + 1, a + q + (bsOf ws[k]).size, _, by omega, by go_num, by go_num, hnew.out, by rw [hz.out]; exact N2.out, H4.out, HK4.out, ?_⟩
          rcases HST.out with ⟨s, h1, h2⟩ | ⟨h1, h2⟩
          · refine .inl ⟨s, h1, ?_⟩
            unfold failS
            rw [h2, if_neg (by show ¬ (5 : Int) = 0; decide)]
          · refine .inl ⟨a + q, ?_, ?_⟩
            · rw [h2, hdk.out, longP, if_pos HLB.out, HQ.out]
            · unfold failS
              rw [h1, if_pos rfl]
              congr 1
        case measure => simp [RowKit.intOf]; omega
    · obtain rfl : k = ws.length := by omega
      obtain ⟨gb2, cap2, eg, c2, cb, fb, hgp2⟩ := HP.out.last
      injection eg with eg
      subst eg
      have CB := words_any (bsOf b) wr (by rw [bsOf_size]; omega)
      unfold WordsPost at CB
      rw [bsOf_data] at CB
      obtain ⟨wb, hwb2⟩ : ∃ x, wordsL b = x := ⟨_, rfl⟩
      have hbb := words_both b
      rw [hwb2] at CB hbb
      have HWB := Lib.hid hwb2
      have CB := Lib.hid CB
      unfold strV at cb
      clear hwb2 fb c2
      have hrw := HKp.out.size
      go_wp2_with fail
      refine CB.out.mono ?_
      rintro e w2 ⟨v2, rfl, hown2, hbl2⟩
      have HO2 := Lib.hid hown2
      have HK2 := Lib.hid (kept_of_below hbl2)
      have HV1 := Lib.hid (own_kept HOr.out (kept_of_below hbl2) (fun _ _ f => f))
      have hw2 := hbl2.size
      obtain ⟨A2, cap22, rfl⟩ := own_shape hown2
      clear hown2 hbl2 CB cb
      have hA : (A1 = none ∧ cap1 = 0 ∧ ws = []) ∨ ∃ g1, A1 = some ⟨g1, 0, none⟩ ∧ Hid (∀ j u, (ws.map strV)[j]? = some u → w2.cell? ((⟨g1, 0, none⟩ : Addr).add j) = some u) := by
        rcases HV1.out.2 with ⟨he, h0⟩ | ⟨g1, cp, cur, he, _, hg1, hnc, _, hcs, htk⟩
        · injection he with he1 he2 he3
          exact .inl ⟨he1, he3, List.length_eq_zero_iff.1 h0⟩
        · injection he with he1 _ he2
          refine .inr ⟨g1, he1, Lib.hid fun j u hj => ?_⟩
          rw [add0, Lib.cell_of_heap hg1, ← hj, ← htk, Nat.mul_one, List.getElem?_take, ← Array.getElem?_toList]
          split
          · rfl
          · rename_i hlt'
            rw [← htk, List.getElem?_take, if_neg (by omega)] at hj
            cases hj
      have HJ : Hid (Joined at' b line.data.toList fr pl0 st (wb ++ ws)) := Lib.hid (by
        have h1 : (bodyS at' b line.data.toList fr).1 = joinW (wb ++ ws) := by unfold bodyS; rw [HWB.out, HWS.out]
        have hj : joinW (wordsL b ++ wordsL (line.data.toList.drop fr)) = joinW (wb ++ ws) := by rw [HWB.out, HWS.out]
        refine ⟨h1, fun hl9 => ?_, fun hl9 => ?_, by rw [lensW_append, List.length_append]; omega⟩
        · rcases HST.out with ⟨s, q1, q2⟩ | ⟨q1, q2⟩
          · rw [bodyS_word (by rw [HWS.out]; exact q1), stOf_fail (by show (5 : Int) ≠ 0; decide)]
            unfold failS
            rw [q2, if_neg (by show ¬ (5 : Int) = 0; decide)]
          · rw [List.drop_length] at q2
            rw [bodyS_long (by rw [HWS.out, q2]; rfl) (by rw [hj]; exact hl9), stOf_fail (by show (5 : Int) ≠ 0; decide)]
            unfold failS
            rw [q1, if_pos rfl]
        · rcases HST.out with ⟨s, q1, q2⟩ | ⟨q1, q2⟩
          · rw [bodyS_word (by rw [HWS.out]; exact q1), stOf_fail (by show (5 : Int) ≠ 0; decide), q2]
          · rw [List.drop_length] at q2
            rw [bodyS_ok (by rw [HWS.out, q2]; rfl) (by rw [hj]; exact hl9), stOf_zero rfl, q1])
      rcases hA with ⟨rfl, rfl, rfl⟩ | ⟨g1, rfl, hcl⟩
      case' inl =>
        go_wp2_with (at_builtin; refine wpList_append_own_none rfl _ _ _ rfl wr.heap.size 9 i0 1 Tryz.underlying51 HI.out _ _ _ rfl HO2.out rfl ?_)
        have H3 : Hid (∃ (b3 : Nat) (wz : List (List UInt8)), w2.ownsRow b3 9 1 (.slice A2 wb.length cap22) wz.length (wz.map strV) ∧ Joined at' b line.data.toList fr pl0 st wz) := Lib.hid ⟨_, wb ++ [], by simpa using HO2.out, HJ.out⟩
        have HK3 := HK2
      case' inr =>
        go_wp2_with (at_builtin; refine wpList_append_own _ rfl _ _ 51 rfl wr.heap.size 9 i0 (.string ⟨#[]⟩) 1 16 Tryz.underlying51 HI.out HZ0.out HZ1.out HZ2.out rfl (by decide) _ _ _ rfl HO2.out ⟨g1, 0, none⟩ ws.length cap1 (ws.map strV) rfl (by simp) hcl.out (by intro u hu; obtain ⟨x, _, rfl⟩ := List.mem_map.1 hu; rfl) (by unfold maxLen; omega) (by omega) (by omega) ?_; intro v3 w3 hown3 hgrow hnil; clear hnil)
        have H3 : Hid (∃ (b3 : Nat) (wz : List (List UInt8)), w3.ownsRow b3 9 1 v3 wz.length (wz.map strV) ∧ Joined at' b line.data.toList fr pl0 st wz) := Lib.hid ⟨_, wb ++ ws, by simpa using hown3, HJ.out⟩
        have HK3 : Hid (Kept (fun _ => False) wr w3) := Lib.hid (HK2.out.trans ((Kept.refl _ w2).grown hgrow (fun j _ e => e)) (fun j hj e => by have := (own_lt HO2.out j e).1; omega))
        obtain ⟨A3, cap3, rfl⟩ := own_shape hown3
        clear hown3 hgrow
      all_goals
        obtain ⟨b3, wz, hO3, hJ⟩ := H3.out
        have hjl := joinW_len wz
        have hjs := hJ.size
        have HJJ := Lib.hid hJ
        refine (join_any hO3 (by omega) (by omega)).mono ?_
        rintro e w4 ⟨rfl, hbl4⟩
        have HK4 := Lib.hid (HK3.out.trans (kept_of_below hbl4) (fun _ _ f => f))
        have HP4 := Lib.hid (HP.out.kept HK4.out (fun f => f) (fun _ _ f => f))
        obtain ⟨gb5, cap5, eg5, c25, cb5, fb5, hgp5⟩ := HP4.out.last
        injection eg5 with eg5
        subst eg5
        have hz5 := bsOf_size (joinW wz)
        have HZ5 := Lib.hid hz5
        have HP5 := Lib.hid (HP4.out.setBody (joinW wz))
        obtain ⟨q0, q1, q3, q4, r1, r2, r3, r4⟩ := HP4.out.cells
        have HKF : Hid (Kept (fun k => k = p ∨ some gb = some k) w (w4.setCell ⟨gb, fs0.length * 2 + 1, none⟩ (strV (joinW wz)))) := Lib.hid
          ((((HK1.out.mono (fun _ _ f => f.elim)).trans HKp.out (fun _ _ f => .inl f)).trans HK4.out (fun _ _ f => f.elim)).setCell (p := ⟨gb, fs0.length * 2 + 1, none⟩) (fun _ => .inr rfl) _)
        clear hO3 hJ hbl4 hz5 hjl c25 q0 q3 q4 r1 r2 r3 r4
        by_cases h8 : 8192 < (joinW wz).length
        · have hd8 : decide (8192 < (bsOf (joinW wz)).size) = true := decide_eq_true (by rw [HZ5.out]; exact h8)
          have hd8' : (8192 : Int) < (bsOf (joinW wz)).size := by rw [HZ5.out]; omega
          have HL8 := Lib.hid (HJJ.out.long h8)
          clear h8
          unfold strV at cb5 ⊢
          unfold strV at HP5 HKF
          go_wp2_with (go_at_call 117; refine (fail_any HP5.out at' 5).mono ?_; rintro e w6 ⟨rfl, h6, hk6⟩; have H6 := Lib.hid h6; have HK6 := Lib.hid (HKF.out.trans hk6 (fun _ _ f => .inl f)); clear h6 hk6)
          go_end0
          refine ⟨rfl, ?_, HK6.out⟩
          rw [HJJ.out.fst, ← HL8.out]
          exact H6.out
        · have hd8' : ¬ (8192 : Int) < (bsOf (joinW wz)).size := by rw [HZ5.out]; omega
          have HL8 := Lib.hid (HJJ.out.short h8)
          clear h8
          unfold strV at cb5 ⊢
          unfold strV at HP5 HKF
          go_wp2
          go_end0
          refine ⟨rfl, ?_, HKF.out⟩
          rw [HJJ.out.fst, ← HL8.out]
          exact HP5.out
end Go.Proofs.YteecmcphbehfgaaGreatDoor
