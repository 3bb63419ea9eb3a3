/- Several small texts as one: article, the document's side: the level of a line. Conditions: texts of at most 1000000 bytes. article, the document's side: the lines of a text. Conditions: texts of at most 1000000 bytes. article: Strip. Conditions: texts of at most 1000000 bytes. article: the lines of a quoted text and their levels: plain functions. Conditions: none. article, the document's side: Quote. Conditions: texts of at most 1000000 bytes. article: a quoted text is a body without an error, and stripping it once leaves nothing: plain functions. Conditions: none. article, the document's side: Strip. Conditions: texts of at most 1000000 bytes. The shortened text of a law. Conditions: texts of any length that an int holds. -/
import Derived.Test.YteecmcphbehfgaaGreatDoorB8
import Derived.Test.YteecmcphbehfgaaGreatDoorB9
import Derived.Test.YteecmcphbehfgaaGreatDoorP6
import Derived.Test.YteecmcphbehfgaaGreatDoorB3
import Derived.Test.YteecmcphbehfgaaGreatDoorB10
import Derived.Test.YteecmcphbehfgaaGreatDoorP5
import Derived.Test.YteecmcphbehfgaaGreatDoorB11
import Derived.Test.YteecmcphbehfgaaGreatDoorLiftB
namespace Go.Proofs.YteecmcphbehfgaaGreatDoor
section
open Go.RowKit Go.Lib

theorem lvN_span (l : List UInt8) : spanL mkB l 0 = lvN l := by unfold spanL lvN; simp
theorem lv_drop (l : List UInt8) : l.dropWhile mkB = l.drop (lvN l) := by
  have := drop_span mkB l 0
  rw [lvN_span] at this
  rw [this]
  rfl
theorem lvR_zero {l : List UInt8} (h : lvN l = 0) : lvR l = l := by
  have h' : (l.takeWhile mkB).length = 0 := h
  unfold lvR
  rw [if_neg (by omega), lv_drop, h]
  rfl
theorem lvR_end {l : List UInt8} (h : lvN l = l.length) : lvR l = [] := by
  unfold lvR
  rw [lv_drop, h, List.drop_length]
  split <;> rfl
theorem lvR_space {l : List UInt8} {n : Nat} (hn : lvN l = n) (h0 : 0 < n) (h : n < l.length) (hc : l[n] = 32) : lvR l = l.drop (n + 1) := by
  have h' : 0 < (l.takeWhile mkB).length := by show 0 < lvN l; omega
  unfold lvR
  rw [if_pos h', lv_drop, hn, List.drop_eq_getElem_cons h]
  simp only
  rw [if_pos hc]
theorem lvR_other {l : List UInt8} {n : Nat} (hn : lvN l = n) (h0 : 0 < n) (h : n < l.length) (hc : ¬ l[n] = 32) : lvR l = l.drop n := by
  have h' : 0 < (l.takeWhile mkB).length := by show 0 < lvN l; omega
  unfold lvR
  rw [if_pos h', lv_drop, hn, List.drop_eq_getElem_cons h]
  simp only
  rw [if_neg hc]
theorem ext_strV (s : ByteArray) (n : Nat) : Value.string (s.extract n s.size) = strV (s.data.toList.drop n) := by
  unfold strV
  rw [← ext_drop, bsOf_eta]
def RLevPost (l : List UInt8) (w : World) (e : Ending) (w' : World) : Prop := e = .returned (.tuple #[.int .i64 (lvN l : Nat), strV (lvR l)]) ∧ Below w.heap.size w w'
theorem RLevPost.mk {l : List UInt8} {w w' : World} {n : Nat} {R : ByteArray} (h1 : lvN l = n) (h2 : Value.string R = strV (lvR l)) (hb : Below w.heap.size w w') : RLevPost l w (.returned (.tuple #[.int .i64 n, .string R])) w' := ⟨by rw [h1, h2], hb⟩

set_option maxRecDepth 100000 in
set_option maxHeartbeats 4000000 in
theorem rlevel_any (s : ByteArray) (hs : s.size ≤ 1000000) (w : World) : Calls Tryz.prog 51 #[.string s] w (RLevPost s.data.toList w) := by
  have hll : s.data.toList.length = s.size := by simp
  have HLL := Lib.hid hll
  have HSP := Lib.hid (lvN_span s.data.toList)
  clear hll
  go_enter Tryz.func51, Tryz.ntmps51
  go_wp2
  go_loopw [4] (fun v wr => ∃ k : Nat, v = .int .i64 k ∧ k ≤ s.size ∧ spanL mkB s.data.toList 0 = spanL mkB s.data.toList k ∧ Below w.heap.size w wr) (fun v _ => s.size - (RowKit.intOf v).toNat)
  case atStart => exact ⟨0, rfl, Nat.zero_le _, rfl, Below.refl _ _⟩
  case round =>
    obtain ⟨k, rfl, hk, hsp, hb⟩ := hrel
    have HS := Lib.hid hsp
    have HB := Lib.hid hb
    clear hsp hb
    by_cases hlt : k < s.size
    · have hlt' : k < s.data.toList.length := by rw [HLL.out]; exact hlt
      have HCE : Hid (s.data.toList[k] = s[k]) := Lib.hid rfl
      by_cases hc : s[k].toNat = 62
      · have HST : Hid (spanL mkB s.data.toList k = spanL mkB s.data.toList (k + 1)) := Lib.hid (spanL_step hlt' (by rw [HCE.out]; unfold mkB; rw [beq_iff_eq]; exact UInt8.toNat_inj.1 hc))
        have hcb : ((s[k].toNat : Int) == 62) = true := by simp; omega
        clear hc
        go_wp2
        go_roundw
        case rel => exact ⟨k + 1, by go_num, by omega, by rw [HS.out, HST.out], HB.out⟩
        case measure => simp [RowKit.intOf]; omega
      · have HN : Hid (lvN s.data.toList = k) := Lib.hid (by rw [← HSP.out, HS.out]; exact spanL_stop hlt' (by rw [HCE.out]; unfold mkB; rw [← Bool.not_eq_true, beq_iff_eq]; intro f; exact hc (by rw [f]; rfl)))
        have hcb : ((s[k].toNat : Int) == 62) = false := by simp; omega
        clear hc
        obtain ⟨R, hR⟩ : ∃ R, s.extract k s.size = R := ⟨_, rfl⟩
        have hRs : R.size = s.size - k := by rw [← hR]; simp
        have hRd : R.data.toList = s.data.toList.drop k := by rw [← hR]; exact ext_drop s k
        have HRV : Hid (Value.string R = strV (s.data.toList.drop k)) := Lib.hid (by rw [← hR]; exact ext_strV s k)
        have HRD := Lib.hid hRd
        obtain ⟨n1, n2, n3⟩ := ne_facts (s := R) (by omega)
        by_cases h0 : 0 < k
        · by_cases h32 : s[k].toNat = 32
          · have hR0 : R[0].toNat = 32 := by
              have e : R.data.toList[0]? = s.data.toList[k]? := by rw [HRD.out, List.getElem?_drop]; rfl
              rw [List.getElem?_eq_getElem hlt', List.getElem?_eq_getElem (by simp; omega)] at e
              have e' := Option.some.inj e
              have e2 : R[0] = s[k] := e'
              rw [e2]; exact h32
            have hb32 : ((R[0].toNat : Int) == 32) = true := by simp; omega
            have HV : Hid (Value.string (R.extract 1 (s.size - k)) = strV (lvR s.data.toList)) := Lib.hid (by
              rw [← hRs]
              rw [lvR_space HN.out h0 hlt' (by rw [HCE.out]; exact UInt8.toNat_inj.1 h32), ext_strV, HRD.out, List.drop_drop])
            clear hR0 h32 hRd
            go_wp2
            go_ret2
            exact .mk HN.out HV.out HB.out
          · have hR0 : R[0].toNat ≠ 32 := by
              have e : R.data.toList[0]? = s.data.toList[k]? := by rw [HRD.out, List.getElem?_drop]; rfl
              rw [List.getElem?_eq_getElem hlt', List.getElem?_eq_getElem (by simp; omega)] at e
              have e' := Option.some.inj e
              have e2 : R[0] = s[k] := e'
              rw [e2]; exact h32
            have hb32 : ((R[0].toNat : Int) == 32) = false := by simp; omega
            have HV : Hid (Value.string R = strV (lvR s.data.toList)) := Lib.hid (by
              rw [lvR_other HN.out h0 hlt' (by rw [HCE.out]; intro f; exact h32 (by rw [f]; rfl)), HRV.out])
            clear hRd
            go_wp2
            go_ret2
            exact .mk HN.out HV.out HB.out
        · obtain rfl : k = 0 := by omega
          have HV : Hid (Value.string R = strV (lvR s.data.toList)) := Lib.hid (by rw [lvR_zero HN.out, HRV.out]; rfl)
          clear hRd
          go_wp2
          go_ret2
          exact .mk HN.out HV.out HB.out
    · obtain rfl : k = s.size := by omega
      have HN : Hid (lvN s.data.toList = s.size) := Lib.hid (by rw [← HSP.out, HS.out]; exact spanL_end (by rw [HLL.out]; exact Nat.le_refl _))
      obtain ⟨R, hR⟩ : ∃ R, s.extract s.size s.size = R := ⟨_, rfl⟩
      have hRs : R.size = 0 := by rw [← hR]; simp
      obtain rfl : R = ⟨#[]⟩ := by
        apply ByteArray.ext
        exact Array.eq_empty_of_size_eq_zero hRs
      have HV : Hid (Value.string (⟨#[]⟩ : ByteArray) = strV (lvR s.data.toList)) := Lib.hid (by rw [lvR_end (by rw [HN.out, HLL.out])]; rfl)
      clear hRs
      by_cases h0 : 0 < s.size
      · go_wp2
        go_ret2
        exact .mk HN.out HV.out HB.out
      · go_wp2
        go_ret2
        exact .mk HN.out HV.out HB.out
end
section
open Go.RowKit Go.Lib

theorem Tryz.str_info2 : (Tryz.prog.info? 9).map (fun i => (i.zero, i.size, i.bytes)) = some (some (.string ⟨#[]⟩), 1, 16) := by kernel_rfl
/-- The lines without their numbers. -/
def lineL (l : List UInt8) : List (List UInt8) := (lineI l).map (·.2)
def LinesPost (l : List UInt8) (w : World) (e : Ending) (w' : World) : Prop := ∃ v, e = .returned v ∧ w'.ownsRow w.heap.size 9 1 v (lineL l).length ((lineL l).map strV) ∧ Below w.heap.size w w'
theorem ext_bs2 (s : ByteArray) (i j : Nat) : bsOf ((s.data.toList.drop i).take (j - i)) = s.extract i j := by
  have := strV_extract s i j
  unfold strV at this
  injection this with this
  exact this.symm
theorem lnN_drop (l : List UInt8) (a : Nat) : lnN l a = spanL nlB (l.drop a) 0 := rfl

set_option maxRecDepth 100000 in
set_option maxHeartbeats 4000000 in
theorem rlines_any (s : ByteArray) (hs : s.size ≤ 1000000) (w : World) : Calls Tryz.prog 25 #[.string s] w (LinesPost s.data.toList w) := by
  have hll : s.data.toList.length = s.size := by simp
  have HLL := Lib.hid hll
  obtain ⟨i0, hi, hz0, hz1, hz2⟩ := info_parts Tryz.str_info2
  have HI := Lib.hid hi
  have HZ0 := Lib.hid hz0
  have HZ1 := Lib.hid hz1
  have HZ2 := Lib.hid hz2
  clear hll hi hz0 hz1 hz2
  go_enter Tryz.func25, Tryz.ntmps25
  go_wp2
  go_loopw [3, 4] (fun v3 v wr => ∃ (a i : Nat) (pre : List (Nat × List UInt8)), v = .int .i64 a ∧ a ≤ s.size + 1 ∧ i ≤ a ∧ LineAt s.data.toList i pre (s.data.toList.drop a) ∧ wr.ownsRow w.heap.size 9 1 v3 pre.length (pre.map fun x => strV x.2) ∧ Below w.heap.size w wr) (fun _ v _ => s.size + 1 - (RowKit.intOf v).toNat)
  case atStart => exact ⟨0, 0, [], rfl, Nat.zero_le _, Nat.le_refl _, LineAt.zero _, ⟨rfl, .inl ⟨rfl, rfl⟩⟩, Below.refl _ _⟩
  case round =>
    obtain ⟨a, i, pre, rfl, ha, hia, hl, ho, hb⟩ := hrel
    obtain ⟨A1, cap1, rfl⟩ := own_shape ho
    have hip : i = pre.length := hl.1
    have HIP := Lib.hid hip
    have HL := Lib.hid hl
    have HO := Lib.hid ho
    have HB := Lib.hid hb
    have hpl : pre.length ≤ s.size + 1 := by omega
    clear hl ho hb hip
    by_cases hlt : a < s.size
    · have CE := Lib.hid (rend_any s hs a (by omega))
      obtain ⟨n, hn⟩ : ∃ n, lnN s.data.toList a = n := ⟨_, rfl⟩
      have hnle : n ≤ s.size - a := by have := lnN_le s.data.toList a; rw [HLL.out] at this; omega
      have hdl : (s.data.toList.drop a).length = s.size - a := by rw [List.length_drop, HLL.out]
      have hne : s.data.toList.drop a ≠ [] := by intro f; rw [f] at hdl; simp at hdl; omega
      have hsp : spanL nlB (s.data.toList.drop a) 0 = n := hn
      have hty : bsOf ((s.data.toList.drop a).take (a + n - a)) = s.extract a (a + n) := ext_bs2 s a (a + n)
      rw [Nat.add_sub_cancel_left] at hty
      rw [hn] at CE
      obtain ⟨t, ht⟩ : ∃ t, a + n = t := ⟨_, rfl⟩
      rw [ht] at CE hty
      have ht1 : a ≤ t := by omega
      have ht2 : t ≤ s.size := by omega
      have HNX : Hid (∃ x : Nat × List UInt8, x.2 = (s.data.toList.drop a).take n ∧ LineAt s.data.toList (i + 1) (pre ++ [x]) (s.data.toList.drop (t + 1))) := Lib.hid (by
        by_cases hz : n = s.size - a
        · have h2 := (HL.out.last hne (by rw [hsp, hdl]; exact hz)).1
          refine ⟨(i, s.data.toList.drop a), by show s.data.toList.drop a = _; rw [List.take_of_length_le (by rw [hdl]; omega)], ?_⟩
          rw [show s.data.toList.drop (t + 1) = [] from List.drop_of_length_le (by rw [HLL.out]; omega)]
          exact h2
        · have h2 := (HL.out.next hne (by rw [hsp, hdl]; exact hz)).1
          rw [hsp, List.drop_drop, show a + (n + 1) = t + 1 by omega] at h2
          exact ⟨_, rfl, h2⟩)
      have HTY := Lib.hid hty
      clear hn hdl hne hsp hty
      go_wp2_with fail
      refine (CE.out _).mono ?_
      rintro e w1 ⟨rfl, hb1⟩
      have HB1 := Lib.hid (HB.out.trans (hb1.mono HB.out.size))
      have HO1 := Lib.hid (own_kept HO.out (kept_of_below hb1) (fun _ _ f => f))
      have hwz := HB1.out.size
      clear hb1
      go_wp2_with (at_builtin; refine wpList_append_lies _ rfl _ _ 51 rfl w.heap.size 9 i0 (.string ⟨#[]⟩) 1 16 Tryz.underlying51 HI.out HZ0.out HZ1.out HZ2.out rfl (by decide) (.slice A1 pre.length cap1) pre.length _ rfl (own_kept HO1.out ((Kept.refl (fun _ => False) w1).alloc _) (fun _ _ f => f)) ⟨w1.heap.size, 0, none⟩ 1 1 [.string (s.extract a t)] rfl rfl (new_cells _ _ _) (fun u hu => by rw [List.mem_singleton.1 hu]; rfl) (by decide) (by unfold maxLen; omega) (by omega) (by rw [World.size_alloc]; omega) (w1.heap.size + 1) (by simp) ?_; intro g1' cap1' wA hoA hgA hwA hltA; have HOA := Lib.hid hoA; have HBA := Lib.hid (HB1.out.trans ((((Kept.refl (fun k => (Value.slice A1 pre.length cap1).ownBlock = some k) w1).alloc (.cells #[.string (s.extract a t)] 9)).grown hgA (fun k _ e => e)).toBelow (fun k e => (own_lt HO1.out k e).1) hwz)); clear hoA hgA hwA)
      go_wp2
      go_roundw
      case rel =>
        obtain ⟨x, hx, hat⟩ := HNX.out
        refine ⟨t + 1, i + 1, pre ++ [x], by go_num, by omega, by omega, hat, ?_, HBA.out⟩
        have := HOA.out
        rw [List.length_append, List.map_append]
        show World.ownsRow _ _ _ _ _ (pre.length + 1) (_ ++ [strV x.2])
        rw [hx]
        unfold strV
        rw [HTY.out]
        exact this
      case measure => simp [RowKit.intOf]; omega
    · have HD := Lib.hid HL.out
      have hdn : s.data.toList.drop a = [] := List.drop_of_length_le (by rw [HLL.out]; omega)
      have HE : Hid (lineI s.data.toList = pre) := Lib.hid (by have := HL.out; rw [hdn] at this; exact this.done)
      clear hdn
      go_wp2
      go_ret
      refine ⟨_, rfl, ?_, HB.out⟩
      unfold lineL
      rw [HE.out, List.length_map, List.map_map]
      exact HO.out
end
section
open Go.RowKit Go.Lib Go.Shelf
attribute [local go_sem] Oper.semAt_some

/-- The lines that are quoted less than n times, each as it was. -/
def stL (n : Int) (L : List (Nat × List UInt8)) : List UInt8 := ((L.filter fun x => decide ((lvN x.2 : Int) < n)).map fun x => x.2 ++ [10]).flatten
theorem stL_in {n : Int} {pre : List (Nat × List UInt8)} {x : Nat × List UInt8} (h : (lvN x.2 : Int) < n) : stL n (pre ++ [x]) = stL n pre ++ (x.2 ++ [10]) := by
  unfold stL
  rw [List.filter_append, List.filter_cons_of_pos (by simp [h])]
  simp
theorem stL_out {n : Int} {pre : List (Nat × List UInt8)} {x : Nat × List UInt8} (h : ¬ (lvN x.2 : Int) < n) : stL n (pre ++ [x]) = stL n pre := by
  unfold stL
  rw [List.filter_append, List.filter_cons_of_neg (by simp; omega)]
  simp
theorem stL_len (n : Int) {m : Nat} : ∀ (pre : List (Nat × List UInt8)), (∀ y ∈ pre, y.2.length ≤ m) → (stL n pre).length ≤ pre.length * (m + 1)
  | [], _ => by simp [stL]
  | x :: r, h => by
    have hx := h x (List.mem_cons_self ..)
    have ih := stL_len n r (fun y hy => h y (List.mem_cons_of_mem _ hy))
    by_cases hn : (lvN x.2 : Int) < n
    · have e : stL n (x :: r) = (x.2 ++ [10]) ++ stL n r := by unfold stL; rw [List.filter_cons_of_pos (by simp [hn])]; simp
      rw [e]
      simp only [List.length_append, List.length_cons, List.length_nil, Nat.add_mul]
      omega
    · have e : stL n (x :: r) = stL n r := by unfold stL; rw [List.filter_cons_of_neg (by simp; omega)]
      rw [e]
      simp only [List.length_cons, Nat.add_mul]
      omega
/-- The stripped body, or an error. -/
def stS (n : Int) (l : List UInt8) : List UInt8 × Int := if n < 1 then ([], 2) else if (ckI l).2 ≠ 0 then ([], (ckI l).2) else (stL n (lineI l), 0)
theorem stS_low {n : Int} {l : List UInt8} (h : n < 1) : stS n l = ([], 2) := by unfold stS; rw [if_pos h]
theorem stS_bad {n a c : Int} {l : List UInt8} (h : ¬ n < 1) (hk : ckI l = (a, c)) (hc : c ≠ 0) : stS n l = ([], c) := by unfold stS; rw [if_neg h, hk, if_pos hc]
theorem stS_ok {n a : Int} {l : List UInt8} (h : ¬ n < 1) (hk : ckI l = (a, 0)) : stS n l = (stL n (lineI l), 0) := by unfold stS; rw [if_neg h, hk, if_neg (fun f => f rfl)]
def StPost (n : Int) (l : List UInt8) (w : World) (e : Ending) (w' : World) : Prop := e = .returned (.tuple #[strV (stS n l).1, .int .i64 (stS n l).2]) ∧ Below w.heap.size w w'

set_option maxRecDepth 100000 in
set_option maxHeartbeats 4000000 in
theorem strip_any (s : ByteArray) (n : Int) (hs : s.size ≤ 1000000) (w : World) : Calls Tryz.prog 27 #[.string s, .int .i64 n] w (StPost n s.data.toList w) := by
  refine (callsIn_wide (n := 4)).1 ?_
  refine callsIn_of_wp_marks Tryz.func27 rfl trivial ?_ rfl
  simp only [Tryz.ntmps27, List.size_toArray, List.length_cons, List.length_nil, Nat.reduceAdd, Nat.reduceSub, Array.replicate_succ, Array.replicate_zero, List.push_toArray, List.append_toArray, List.nil_append, List.cons_append]
  have CB := Lib.hid (checkBody_any s hs)
  have CR := Lib.hid (lines_any s)
  obtain ⟨⟨ca, cc⟩, hck⟩ : ∃ q, ckI s.data.toList = q := ⟨_, rfl⟩
  have HCK := Lib.hid hck
  have hr0 : (w.alloc (.cells #[.int .i64 n] 3)).heap[w.heap.size]? = some (.cells #[.int .i64 n] 3 (0, 0)) := heap_alloc_new w _
  have HR0 := Lib.hid hr0
  have HB0 := Lib.hid ((Below.refl w.heap.size w).alloc (Nat.le_refl _) (.cells #[.int .i64 n] 3))
  have c0 := cell_of_one hr0
  clear hck hr0
  by_cases hn1 : n < 1
  · have HE := Lib.hid (stS_low (l := s.data.toList) hn1)
    gi_wp2
    exact ⟨.tuple #[.string ⟨#[]⟩, .int .i64 2], by simp [results, Tryz.f27, go_sem], by rw [HE.out]; rfl, HB0.out⟩
  · gi_wp2_with fail
    refine ⟨trivial, ?_⟩
    refine (callsIn_wide.2 (CB.out _)).mono ?_
    rintro e w1 ⟨rfl, hb1⟩
    rw [HCK.out]
    have hr1 := (hb1.block w.heap.size (by simp)).trans HR0.out
    have HB1 := Lib.hid (HB0.out.trans (hb1.mono (by simp)))
    have HR1 := Lib.hid hr1
    clear hb1 c0 hr1
    by_cases hcc : cc = 0
    · subst hcc
      have HE := Lib.hid (stS_ok (n := n) (by omega) HCK.out)
      gi_wp2_with fail
      refine ⟨trivial, ?_⟩
      refine (callsIn_wide.2 (CR.out _)).mono ?_
      rintro e w2 ⟨rfl, rfl⟩
      gi_wp2_with fail
      have HB2 := Lib.hid ((HB1.out.alloc HB1.out.size (.cells #[.pointer none, .slice none 0 0] 85)).alloc (by simp; have := HB1.out.size; omega) (.cells #[.string s] 9))
      have hk12 : Kept (fun _ => False) w1 ((w1.alloc (.cells #[.pointer none, .slice none 0 0] 85)).alloc (.cells #[.string s] 9)) := ((Kept.refl _ w1).alloc _).alloc _
      have hq1 := hk12.heap HR1.out (fun f => f)
      have hlb : LB w.heap.size w1.heap.size [] none ((w1.alloc (.cells #[.pointer none, .slice none 0 0] 85)).alloc (.cells #[.string s] 9)) :=
        (LB.new w1 w.heap.size HB1.out.size).kept (F := fun _ => False) ((Kept.refl _ _).alloc _) (fun f => f) (fun _ _ f => f)
      have hs2 : ((w1.alloc (.cells #[.pointer none, .slice none 0 0] 85)).alloc (.cells #[.string s] 9)).heap[w1.heap.size + 1]? = some (.cells #[.string s] 9 (0, 0)) := by
        have := heap_alloc_new (w1.alloc (.cells #[.pointer none, .slice none 0 0] 85)) (.cells #[.string s] 9)
        rw [World.size_alloc] at this
        exact this
      have hz2 : ((w1.alloc (.cells #[.pointer none, .slice none 0 0] 85)).alloc (.cells #[.string s] 9)).heap.size = w1.heap.size + 1 + 1 := by simp
      have hlen := lineI_len s.data.toList
      have hll : s.data.toList.length = s.size := by simp
      rw [hll] at hlen
      generalize (w1.alloc (.cells #[.pointer none, .slice none 0 0] 85)).alloc (.cells #[.string s] 9) = w2 at *
      have hszw : w.heap.size + 1 ≤ w1.heap.size := lt_of_block HR1.out
      generalize w1.heap.size = N1 at *
      refine range_law rfl (by omega) (gf := 75) (lb := #[.pointer (some ⟨N1 + 1, 0, none⟩)]) rfl trivial (enters_of Tryz.func75 (by kernel_rfl) rfl)
        (lines_iter (N1 + 1) s hs _ (fun k => k = N1 + 1) rfl w2 hs2) (by omega) (fun k hk => by have hk' : k = N1 + 1 := hk; omega) (fun _ => rfl)
        (fun pre W => (∃ g, LB w.heap.size N1 (stL n pre) g W ∧ g ≠ some (N1 + 1)) ∧ W.heap[w.heap.size]? = some (.cells #[.int .i64 n] 3 (0, 0)) ∧ Below w.heap.size w W)
        (fun _ _ _ => False)
        ?hI (fun _ _ _ _ h _ => h.elim) ⟨⟨none, hlb, by simp⟩, hq1, HB2.out⟩
        (fun x => { tmps := #[.string s, .int .i64 n, undef, .pointer (some ⟨w.heap.size, 0, none⟩), .string ⟨#[]⟩, .int .i64 0, .int .i64 ca, .int .i64 0, .pointer (some ⟨N1, 0, none⟩), undef, .string (bsOf x.2), undef, undef, .int .i64 n, .bool false, .tuple #[.int .i64 ca, .int .i64 0], .string s, .tuple #[.int .i64 ca, .int .i64 0], .int .i64 ca, .int .i64 0, .int .i64 0, .bool false, undef, .string s, .func (.func 75) #[] #[.pointer (some ⟨N1 + 1, 0, none⟩)], .int .i64 x.1, .string (bsOf x.2), undef, undef, undef, undef, undef, undef, undef, undef, undef, undef, undef, undef], defers := [] }) ?assign ?body ?done ?stop
      case hI =>
        rintro pre W W' ⟨⟨g, h2, hgb⟩, h3, h6⟩ hk
        refine ⟨⟨g, h2.kept hk (by rintro (e | ⟨e, _⟩) <;> omega) (fun k hg f => ?_), hgb⟩, hk.heap h3 (by rintro (e | ⟨e, _⟩) <;> omega), h6.trans (hk.toBelow (by rintro k (e | ⟨e, _⟩) <;> omega) h6.size)⟩
        rcases f with e | ⟨_, o, ho, hc⟩
        · exact hgb (by rw [hg, e])
        · rw [h2.gcells k o hg ho] at hc; cases hc
      case assign =>
        intro l x W K hK
        simp only [encN2]
        gi_wp2
        exact hK
      case body =>
        rintro l pre x W ⟨⟨g, h2, hgb⟩, h3, h6⟩ hpre hsz
        have hpl : pre.length + 1 ≤ (lineI s.data.toList).length := by
          have := hpre.length_le
          simpa using this
        have hmem : x ∈ lineI s.data.toList := hpre.subset (List.mem_append.2 (.inr (List.mem_singleton.2 rfl)))
        have hxl := lineI_sum hmem
        rw [hll] at hxl
        have hol := stL_len n (m := s.size) pre (fun y hy => by
          have := lineI_sum (hpre.subset (List.mem_append.2 (.inl hy)))
          rw [hll] at this
          exact this)
        have hol2 : pre.length * (s.size + 1) ≤ 1000000 * (1000000 + 1) := Nat.mul_le_mul (by omega) (by omega)
        obtain ⟨X, hX⟩ : ∃ X, bsOf x.2 = X := ⟨_, rfl⟩
        have hXd : X.data.toList = x.2 := by rw [← hX, bsOf_data]
        have hXz : X.size ≤ 1000000 := by rw [← hX, bsOf_size]; omega
        have CL := level_any X hXz W
        have CQ := Lib.hid (lb_Write2 h2 (X ++ ⟨#[10]⟩) (by rw [ByteArray.size_append]; have : (⟨#[10]⟩ : ByteArray).size = 1 := rfl; omega))
        have CL := Lib.hid CL
        have c3 := cell_of_one h3
        have H2 := Lib.hid h2
        have H3 := Lib.hid h3
        have H6 := Lib.hid h6
        have HGB := Lib.hid hgb
        obtain ⟨v, hv⟩ : ∃ v, lvN X.data.toList = v := ⟨_, rfl⟩
        have hvl : v ≤ 1000000 := by
          have h1 := lv_len X.data.toList
          rw [show X.data.toList.length = X.size by simp] at h1
          omega
        have HV := Lib.hid hv
        have HXD := Lib.hid hXd
        clear h2 h3 h6 hpre hgb hmem hll hol hol2 hv hXd
        rw [hX]
        clear hX
        gi_wp2_with fail
        refine ⟨trivial, (CallsIn.inRound l (callsIn_wide.2 CL.out)).mono ?_⟩
        rintro e w3 ⟨rfl, rfl⟩
        rw [HV.out]
        by_cases hq : (v : Int) < n
        · have HST := Lib.hid (stL_in (n := n) (pre := pre) (x := x) (by rw [← HXD.out, HV.out]; exact hq))
          have hqb : decide ((v : Int) < n) = true := by simp; omega
          gi_wp2_with fail
          refine ⟨trivial, (CallsIn.inRound l (callsIn_wide.2 CQ.out)).mono ?_⟩
          rintro e w3 ⟨rfl, g', hlb', hk', hg'⟩
          have hglt := H2.out.glt
          have HF := Lib.hid (show ∀ k, k = N1 ∨ g = some k → ¬ k = N1 + 1 from fun k f e => by
            rcases f with f | f
            · omega
            · exact HGB.out (by rw [f, e]))
          have hr3 := hk'.heap H3.out (H2.out.apart H3.out (by decide) (by decide))
          have hbl3 := H6.out.trans (hk'.toBelow (fun k f => by
            rcases f with f | f
            · omega
            · exact (hglt k f).1) H6.out.size)
          have HELD := Lib.hid (Held.of (B := w2.heap.size) (Z := fun k => k = N1 + 1) hk' (fun k hk => ⟨by have hk2 : k = N1 + 1 := hk; omega, fun f => HF.out k f hk⟩) (fun k o f hB ho => by
            rcases f with f | f
            · omega
            · exact H2.out.gcells k o f ho))
          have HNG : Hid (g' ≠ some (N1 + 1)) := Lib.hid (fun e => by
            rcases hg' with f | f
            · exact HGB.out (by rw [← f, e])
            · have := f _ e; omega)
          have HR3 := Lib.hid hr3
          have HB3 := Lib.hid hbl3
          have e2 : (X ++ ⟨#[10]⟩).data.toList = x.2 ++ [10] := by rw [← HXD.out]; simp
          rw [e2, ← HST.out] at hlb'
          have HLB := Lib.hid hlb'
          clear hlb' hk' hg' hglt hr3 hbl3 c3 e2
          gi_wp2
          exact ⟨HELD.out, ⟨g', HLB.out, HNG.out⟩, HR3.out, HB3.out⟩
        · have HST := Lib.hid (stL_out (n := n) (pre := pre) (x := x) (by rw [← HXD.out, HV.out]; exact hq))
          have hqb : decide ((v : Int) < n) = false := by simp; omega
          gi_wp2
          refine ⟨Held.of (Kept.refl (fun _ => False) W) (fun k hk => ⟨by have hk2 : k = N1 + 1 := hk; omega, fun f => f⟩) (fun k o f hB ho => f.elim), ⟨g, by rw [HST.out]; exact H2.out, HGB.out⟩, H3.out, H6.out⟩
      case done =>
        rintro D W hD ⟨⟨g, h2, hgb⟩, h3, h6⟩ hK
        have CS := Lib.hid (lb_String h2)
        have hglt := h2.glt
        have hDg : ∀ k, g = some k → k ≠ D := fun k e f => by
          have := h2.gcells k _ e (by rw [f]; exact hK)
          cases this
        have H6 := Lib.hid h6
        have HKD := Lib.hid hK
        have HDG := Lib.hid hDg
        have HGL := Lib.hid hglt
        clear h2 h3 h6 hgb hglt hDg hK
        gi_wp2_with fail
        refine ⟨trivial, ?_⟩
        refine (callsIn_wide.2 CS.out).mono ?_
        rintro e w5 ⟨rfl, _, hk5⟩
        have hkd := hk5.heap HKD.out (fun f => HDG.out D f rfl)
        have hb6 := H6.out.trans (hk5.toBelow (fun k f => (HGL.out k f).1) H6.out.size)
        have HKD5 := Lib.hid hkd
        have HB6 := Lib.hid hb6
        clear hk5 hkd hb6
        simp only [strV]
        gi_wp2
        refine ⟨by simp, .inl ⟨_, _, rfl, run_takeDeferred HKD5.out, ?_⟩⟩
        exact ⟨.tuple #[.string (bsOf (stL n (lineI s.data.toList))), .int .i64 0], by simp [results, Tryz.f27, go_sem], by rw [HE.out]; rfl, HB6.out.trans ((kept_put _ D _).toBelow (fun k e => by have e' : k = D := e; have := HB2.out.size; omega) HB6.out.size)⟩
      case stop =>
        rintro D c pre W _ _ h _
        exact h.elim
    · have hcb : (cc != 0) = true := by simp [hcc]
      have HE := Lib.hid (stS_bad (n := n) (by omega) HCK.out hcc)
      clear hcc
      gi_wp2
      exact ⟨.tuple #[.string ⟨#[]⟩, .int .i64 cc], by simp [results, Tryz.f27, go_sem], by rw [HE.out]; rfl, HB1.out⟩
end
section
open Go.RowKit Go.Lib

/-- No line holds a line feed. -/
theorem linI_nl : ∀ (f : Nat) (l : List UInt8) (i : Nat), ∀ x ∈ linI f l i, ∀ c ∈ x.2, nlB c = true
  | 0, _, _, x, h => by cases h
  | f + 1, l, i, x, h => by
    unfold linI at h
    have htw : l.take (spanL nlB l 0) = l.takeWhile nlB := by
      have := take_span nlB l 0
      simpa using this
    have hall : ∀ c ∈ l.takeWhile nlB, nlB c = true := fun c hc => List.all_eq_true.1 List.all_takeWhile c hc
    by_cases h1 : l = []
    · rw [if_pos h1] at h; cases h
    · rw [if_neg h1] at h
      by_cases h2 : spanL nlB l 0 = l.length
      · rw [if_pos h2] at h
        rw [List.mem_singleton.1 h]
        intro c hc
        refine hall c ?_
        rw [← htw, h2, List.take_length]
        exact hc
      · rw [if_neg h2] at h
        rcases List.mem_cons.1 h with rfl | h
        · intro c hc
          exact hall c (by rw [← htw]; exact hc)
        · exact linI_nl f _ _ x h
/-- One line and a line feed ahead of a text. -/
theorem span_line {x r : List UInt8} (hx : ∀ c ∈ x, nlB c = true) : spanL nlB (x ++ 10 :: r) 0 = x.length := by
  unfold spanL
  rw [List.drop_zero, Nat.zero_add]
  induction x with
  | nil => rfl
  | cons c t ih =>
    rw [List.cons_append, List.takeWhile_cons, if_pos (hx c (List.mem_cons_self ..))]
    rw [List.length_cons, ih (fun d hd => hx d (List.mem_cons_of_mem _ hd)), List.length_cons]
theorem linI_cons {f i : Nat} {x r : List UInt8} (hx : ∀ c ∈ x, nlB c = true) : linI (f + 1) (x ++ 10 :: r) i = (i, x) :: linI f r (i + 1) := by
  have hs := span_line (r := r) hx
  rw [linI, if_neg (by simp), hs, if_neg (by simp), List.take_left' rfl]
  have e : x ++ 10 :: r = (x ++ [10]) ++ r := by simp
  have e2 : (x ++ 10 :: r).drop (x.length + 1) = r := by rw [e, List.drop_left' (by simp)]
  rw [e2]
theorem linI_joined : ∀ (L : List (List UInt8)) (f i : Nat), (∀ x ∈ L, ∀ c ∈ x, nlB c = true) → ((L.map fun x => x ++ [10]).flatten).length ≤ f → (linI f ((L.map fun x => x ++ [10]).flatten) i).map (·.2) = L
  | [], f, i, _, _ => by simp [linI_nil]
  | x :: t, f, i, h, hf => by
    have e : ((x :: t).map fun x => x ++ [10]).flatten = x ++ 10 :: (t.map fun x => x ++ [10]).flatten := by simp
    rw [e] at hf ⊢
    simp only [List.length_append, List.length_cons] at hf
    obtain ⟨g, rfl⟩ : ∃ g, f = g + 1 := ⟨f - 1, by omega⟩
    rw [linI_cons (h x (List.mem_cons_self ..)), List.map_cons, linI_joined t g (i + 1) (fun y hy => h y (List.mem_cons_of_mem _ hy)) (by omega)]
theorem lineL_joined (L : List (List UInt8)) (h : ∀ x ∈ L, ∀ c ∈ x, nlB c = true) : lineL ((L.map fun x => x ++ [10]).flatten) = L := linI_joined L _ 0 h (Nat.le_refl _)
theorem qtL_nl {x : List UInt8} (h : ∀ c ∈ x, nlB c = true) : ∀ c ∈ qtL x, nlB c = true := by
  intro c hc
  unfold qtL at hc
  split at hc
  · rcases List.mem_cons.1 hc with rfl | hc
    · rfl
    · exact h c hc
  · rcases List.mem_cons.1 hc with rfl | hc
    · rfl
    · rcases List.mem_cons.1 hc with rfl | hc
      · rfl
      · exact h c hc
theorem outL_map (L : List (Nat × List UInt8)) : outL L = (((L.map (·.2)).map qtL).map fun x => x ++ [10]).flatten := by simp [outL, List.map_map, Function.comp_def]
/-- The lines of the quoted text are the quoted lines. -/
theorem lineL_out (l : List UInt8) : lineL (outL (lineI l)) = (lineL l).map qtL := by
  rw [outL_map]
  refine lineL_joined _ (fun x hx => ?_)
  obtain ⟨y, hy, rfl⟩ := List.mem_map.1 hx
  obtain ⟨z, hz, rfl⟩ := List.mem_map.1 hy
  exact qtL_nl (linI_nl _ _ _ z hz)
theorem takeW_mk (x : List UInt8) : (62 :: x).takeWhile mkB = 62 :: x.takeWhile mkB := by rw [List.takeWhile_cons, if_pos (by rfl)]
theorem dropW_mk (x : List UInt8) : (62 :: x).dropWhile mkB = x.dropWhile mkB := by rw [List.dropWhile_cons, if_pos (by rfl)]
/-- A quoted line has one mark more and the same rest. -/
theorem qtL_level (x : List UInt8) : lvN (qtL x) = lvN x + 1 ∧ lvR (qtL x) = lvR x := by
  unfold qtL
  by_cases h : x = [] ∨ 0 < lvN x
  · rw [if_pos h]
    have hN : lvN (62 :: x) = lvN x + 1 := by unfold lvN; rw [takeW_mk, List.length_cons]
    refine ⟨hN, ?_⟩
    rcases h with rfl | h
    · rfl
    · have h' : 0 < (x.takeWhile mkB).length := h
      have h2 : 0 < ((62 :: x).takeWhile mkB).length := by rw [takeW_mk]; simp
      unfold lvR
      rw [if_pos h2, if_pos h', dropW_mk]
  · rw [if_neg h]
    have h0 : lvN x = 0 := by
      by_cases h2 : 0 < lvN x
      · exact absurd (.inr h2) h
      · omega
    have e1 : (32 :: x).takeWhile mkB = [] := by rw [List.takeWhile_cons, if_neg (by decide)]
    have e2 : (32 :: x).dropWhile mkB = 32 :: x := by rw [List.dropWhile_cons, if_neg (by decide)]
    refine ⟨?_, ?_⟩
    · unfold lvN
      rw [takeW_mk, e1]
      unfold lvN at h0
      rw [h0]
      rfl
    · rw [lvR_zero h0]
      unfold lvR
      rw [takeW_mk, e1, if_pos (by simp), dropW_mk, e2]
      rfl
end
section
open Go.RowKit Go.Lib

theorem take_snoc {α : Type} (L : List α) {k : Nat} (h : k < L.length) : L.take (k + 1) = L.take k ++ [L[k]] := by
  rw [List.take_add_one, List.getElem?_eq_getElem h]
  rfl
theorem strV_of (X : ByteArray) : Value.string X = strV X.data.toList := by unfold strV; rw [bsOf_eta]
theorem strV_of2 {A : ByteArray} {l : List UInt8} (h : A.data.toList = l) : Value.string A = strV l := by rw [← h]; exact strV_of A
/-- The text so far. -/
def QuAt (l : List UInt8) (k : Nat) (v : Value) : Prop := k ≤ (lineI l).length ∧ (∀ y ∈ (lineI l).take k, (qtL y.2).length ≤ 998) ∧ v = strV (outL ((lineI l).take k))
theorem QuAt.next {l : List UInt8} {k : Nat} {v : Value} (h : QuAt l k v) (hk : k < (lineI l).length) {A : ByteArray} (h9 : (qtL (lineI l)[k].2).length ≤ 998) (hA : A.data.toList = outL ((lineI l).take k) ++ (qtL (lineI l)[k].2 ++ [10])) : QuAt l (k + 1) (.string A) := by
  refine ⟨hk, ?_, ?_⟩
  · rw [take_snoc _ hk]
    intro y hy
    rcases List.mem_append.1 hy with hy | hy
    · exact h.2.1 y hy
    · rw [List.mem_singleton.1 hy]; exact h9
  · rw [strV_of2 hA, take_snoc _ hk, outL_snoc]
theorem QuAt.fail {l : List UInt8} {k : Nat} {v : Value} (h : QuAt l k v) (hk : k < (lineI l).length) (h9 : 998 < (qtL (lineI l)[k].2).length) : quL (lineI l) [] = none :=
  quL_fail (by rw [← take_snoc _ hk]; exact List.take_prefix _ _) h.2.1 h9
theorem QuAt.done {l : List UInt8} {k : Nat} {v : Value} (h : QuAt l k v) (hk : k = (lineI l).length) : quL (lineI l) [] = some (outL (lineI l)) ∧ v = strV (outL (lineI l)) ∧ (outL (lineI l)).length ≤ (lineI l).length * 999 := by
  subst hk
  obtain ⟨_, h2, h3⟩ := h
  rw [List.take_length] at h2 h3
  exact ⟨quL_all h2, h3, outL_len _ h2⟩
theorem quS_bad {l : List UInt8} {a c : Int} (h : ckI l = (a, c)) (hc : c ≠ 0) : quS l = ([], c) := by unfold quS; rw [h, if_pos hc]
theorem quS_none {l : List UInt8} {a : Int} (h : ckI l = (a, 0)) (hq : quL (lineI l) [] = none) : quS l = ([], 5) := by unfold quS; rw [h, if_neg (fun f => f rfl), hq]
theorem quS_long {l out : List UInt8} {a : Int} (h : ckI l = (a, 0)) (hq : quL (lineI l) [] = some out) (hl : 65536 < out.length) : quS l = ([], 5) := by unfold quS; rw [h, if_neg (fun f => f rfl), hq]; simp only; rw [if_pos hl]
theorem quS_ok {l out : List UInt8} {a : Int} (h : ckI l = (a, 0)) (hq : quL (lineI l) [] = some out) (hl : ¬ 65536 < out.length) : quS l = (out, 0) := by unfold quS; rw [h, if_neg (fun f => f rfl), hq]; simp only; rw [if_neg hl]
theorem QuPost.mk {l : List UInt8} {w w' : World} {A : ByteArray} {c : Int} (h : quS l = (A.data.toList, c)) (hb : Below w.heap.size w w') : QuPost l w (.returned (.tuple #[.string A, .int .i64 c])) w' := ⟨by rw [h, strV_of], hb⟩

set_option maxRecDepth 100000 in
set_option maxHeartbeats 8000000 in
theorem rquote_any (s : ByteArray) (hs : s.size ≤ 1000000) (w : World) : Calls Tryz.prog 24 #[.string s] w (QuPost s.data.toList w) := by
  have hll : s.data.toList.length = s.size := by simp
  have HLL := Lib.hid hll
  have CB := Lib.hid (rbody_any s hs)
  have CL := Lib.hid (rlines_any s hs)
  obtain ⟨⟨ca, cc⟩, hck⟩ : ∃ q, ckI s.data.toList = q := ⟨_, rfl⟩
  have HCK := Lib.hid hck
  have hlen := lineI_len s.data.toList
  rw [hll] at hlen
  have hlm : (lineL s.data.toList).length = (lineI s.data.toList).length := by unfold lineL; rw [List.length_map]
  obtain ⟨n, hn⟩ : ∃ n, (lineI s.data.toList).length = n := ⟨_, rfl⟩
  rw [hn] at hlen hlm
  have HN := Lib.hid hn
  have HLM := Lib.hid hlm
  clear hll hck hn hlm
  go_enter Tryz.func24, Tryz.ntmps24
  go_wp2_with fail
  refine (CB.out _).mono ?_
  rintro e w1 ⟨rfl, hb1⟩
  rw [HCK.out]
  have HB1 := Lib.hid hb1
  clear hb1
  by_cases hcc : cc = 0
  · subst hcc
    go_wp2_with fail
    refine (CL.out _).mono ?_
    rintro e w2 ⟨v, rfl, hown, hb2⟩
    rw [HLM.out] at hown
    obtain ⟨A, cap, rfl⟩ := own_shape hown
    have HOW := Lib.hid hown
    have HB2 := Lib.hid (HB1.out.trans (hb2.mono HB1.out.size))
    clear hown hb2
    go_wp2_with fail
    go_loopw [6, 8, 44, 45, 46, 47, 48] (fun v6 v8 _ _ _ _ _ wr => ∃ k : Nat, v8 = .int .i64 k ∧ (∃ T : ByteArray, v6 = .string T ∧ T.data.toList = outL ((lineI s.data.toList).take k)) ∧ QuAt s.data.toList k v6 ∧ Below w2.heap.size w2 wr) (fun _ v _ _ _ _ _ _ => n - (RowKit.intOf v).toNat)
    case atStart => exact ⟨0, rfl, ⟨⟨#[]⟩, rfl, rfl⟩, ⟨Nat.zero_le _, by simp, rfl⟩, Below.refl _ _⟩
    case round =>
      obtain ⟨k, rfl, ⟨T, rfl, hT⟩, hq, hb⟩ := hrel
      have hkn : k ≤ n := by rw [← HN.out]; exact hq.1
      have hTs : T.size ≤ k * 999 := by
        have h1 := outL_len _ hq.2.1
        rw [← hT, List.length_take, HN.out, show T.data.toList.length = T.size by simp] at h1
        omega
      have HQ := Lib.hid hq
      have HT := Lib.hid hT
      have HB := Lib.hid hb
      have HO := Lib.hid (own_kept HOW.out (kept_of_below hb) (fun _ _ f => f))
      clear hq hT hb
      by_cases hlt : k < n
      · have hlt' : k < (lineI s.data.toList).length := by rw [HN.out]; exact hlt
        obtain ⟨g, cap', he, _, hg, hc, hcell⟩ := own_cell HO.out (by omega)
        injection he with he1 _ he2
        subst he1; subst he2
        obtain ⟨X, hX⟩ : ∃ X, bsOf (lineI s.data.toList)[k].2 = X := ⟨_, rfl⟩
        have ck := hcell k (.string X) (by rw [List.getElem?_map]; unfold lineL; rw [List.getElem?_map, List.getElem?_eq_getElem hlt', ← hX]; rfl)
        have hXd : X.data.toList = (lineI s.data.toList)[k].2 := by rw [← hX, bsOf_data]
        have hXs : X.size ≤ 1000000 := by
          have h1 := lineI_sum (List.getElem_mem hlt')
          rw [HLL.out] at h1
          rw [← hX, bsOf_size]
          omega
        have CV := Lib.hid (rlevel_any X hXs wr)
        obtain ⟨lv, hlv⟩ : ∃ lv, lvN X.data.toList = lv := ⟨_, rfl⟩
        have HLV := Lib.hid hlv
        have HXD := Lib.hid hXd
        clear hcell hX hXd hlv
        by_cases h0 : X.size = 0
        · obtain rfl : X = ⟨#[]⟩ := by
            apply ByteArray.ext
            exact Array.eq_empty_of_size_eq_zero h0
          have HX2 : Hid (qtL (⟨#[]⟩ : ByteArray).data.toList = 62 :: (⟨#[]⟩ : ByteArray).data.toList) := Lib.hid (by rfl)
          obtain rfl : lv = 0 := by rw [← HLV.out]; rfl
          have HE := Lib.hid (HQ.out.next hlt' (A := T ++ (⟨#[62]⟩ ++ ⟨#[]⟩ ++ ⟨#[10]⟩)) (by rw [← HXD.out, HX2.out]; decide) (by rw [← HXD.out, HX2.out, ← HT.out]; simp))
          have HTN : Hid ((T ++ (⟨#[62]⟩ ++ ⟨#[]⟩ ++ ⟨#[10]⟩)).data.toList = outL ((lineI s.data.toList).take (k + 1))) := Lib.hid (by rw [take_snoc _ hlt', outL_snoc, ← HXD.out, HX2.out, ← HT.out]; simp)
          go_wp2_with fail
          refine CV.out.mono ?_
          rintro e w3 ⟨rfl, hb3⟩
          have HB3 := Lib.hid (HB.out.trans (hb3.mono HB.out.size))
          have ck3 := ((bcell hb3).1 _ _ hg).trans ck
          rw [HLV.out]
          clear hb3
          simp only [strV]
          go_wp2
          go_roundw
          case rel => exact ⟨k + 1, by go_num, ⟨_, rfl, HTN.out⟩, HE.out, HB3.out⟩
          case measure => simp [RowKit.intOf]; omega
        · obtain ⟨n1, n2, n3⟩ := ne_facts (s := X) (by omega)
          by_cases hl : 0 < lv
          · have HX2 : Hid (qtL X.data.toList = 62 :: X.data.toList) := Lib.hid (by unfold qtL; rw [if_pos (.inr (by rw [HLV.out]; exact hl))])
            by_cases h9 : 998 < X.size + 1
            · have HE := Lib.hid (quS_none HCK.out (HQ.out.fail hlt' (by rw [← HXD.out, HX2.out]; simp; omega)))
              go_wp2_with fail
              refine CV.out.mono ?_
              rintro e w3 ⟨rfl, hb3⟩
              have HB3 := Lib.hid (HB2.out.trans ((HB.out.trans (hb3.mono HB.out.size)).mono HB2.out.size))
              have ck3 := ((bcell hb3).1 _ _ hg).trans ck
              rw [HLV.out]
              clear hb3
              simp only [strV]
              go_wp2
              go_ret2
              exact .mk HE.out HB3.out
            · have HNX := Lib.hid (HQ.out.next hlt' (A := T ++ (⟨#[62]⟩ ++ X ++ ⟨#[10]⟩)) (by rw [← HXD.out, HX2.out]; simp; omega) (by rw [← HXD.out, HX2.out, ← HT.out]; simp))
              have HTN : Hid ((T ++ (⟨#[62]⟩ ++ X ++ ⟨#[10]⟩)).data.toList = outL ((lineI s.data.toList).take (k + 1))) := Lib.hid (by rw [take_snoc _ hlt', outL_snoc, ← HXD.out, HX2.out, ← HT.out]; simp)
              go_wp2_with fail
              refine CV.out.mono ?_
              rintro e w3 ⟨rfl, hb3⟩
              have HB3 := Lib.hid (HB.out.trans (hb3.mono HB.out.size))
              have ck3 := ((bcell hb3).1 _ _ hg).trans ck
              rw [HLV.out]
              clear hb3
              simp only [strV]
              go_wp2
              go_roundw
              case rel => exact ⟨k + 1, by go_num, ⟨_, rfl, HTN.out⟩, HNX.out, HB3.out⟩
              case measure => simp [RowKit.intOf]; omega
          · have HX2 : Hid (qtL X.data.toList = 62 :: 32 :: X.data.toList) := Lib.hid (by
              unfold qtL
              rw [if_neg]
              rintro (f | f)
              · rw [Lib.toList_data] at n1; exact n1 f
              · rw [HLV.out] at f; exact hl f)
            obtain rfl : lv = 0 := by omega
            by_cases h9 : 998 < X.size + 2
            · have HE := Lib.hid (quS_none HCK.out (HQ.out.fail hlt' (by rw [← HXD.out, HX2.out]; simp; omega)))
              go_wp2_with fail
              refine CV.out.mono ?_
              rintro e w3 ⟨rfl, hb3⟩
              have HB3 := Lib.hid (HB2.out.trans ((HB.out.trans (hb3.mono HB.out.size)).mono HB2.out.size))
              have ck3 := ((bcell hb3).1 _ _ hg).trans ck
              rw [HLV.out]
              clear hb3
              simp only [strV]
              go_wp2
              go_ret2
              exact .mk HE.out HB3.out
            · have HNX := Lib.hid (HQ.out.next hlt' (A := T ++ (⟨#[62, 32]⟩ ++ X ++ ⟨#[10]⟩)) (by rw [← HXD.out, HX2.out]; simp; omega) (by rw [← HXD.out, HX2.out, ← HT.out]; simp))
              have HTN : Hid ((T ++ (⟨#[62, 32]⟩ ++ X ++ ⟨#[10]⟩)).data.toList = outL ((lineI s.data.toList).take (k + 1))) := Lib.hid (by rw [take_snoc _ hlt', outL_snoc, ← HXD.out, HX2.out, ← HT.out]; simp)
              go_wp2_with fail
              refine CV.out.mono ?_
              rintro e w3 ⟨rfl, hb3⟩
              have HB3 := Lib.hid (HB.out.trans (hb3.mono HB.out.size))
              have ck3 := ((bcell hb3).1 _ _ hg).trans ck
              rw [HLV.out]
              clear hb3
              simp only [strV]
              go_wp2
              go_roundw
              case rel => exact ⟨k + 1, by go_num, ⟨_, rfl, HTN.out⟩, HNX.out, HB3.out⟩
              case measure => simp [RowKit.intOf]; omega
      · obtain ⟨q1, q2, q3⟩ := HQ.out.done (by rw [HN.out]; omega)
        rw [HN.out] at q3
        have q4 : Value.string T = .string (bsOf (outL (lineI s.data.toList))) := q2
        injection q4 with q4
        subst q4
        have hz := bsOf_size (outL (lineI s.data.toList))
        obtain ⟨o, ho⟩ : ∃ o, outL (lineI s.data.toList) = o := ⟨_, rfl⟩
        rw [ho] at q1 q3 hz
        rw [ho]
        have Q1 := Lib.hid q1
        have HO2 := Lib.hid ho
        clear q1 q2 ho HT
        by_cases hb : 65536 < o.length
        · have HE := Lib.hid (quS_long HCK.out Q1.out hb)
          go_wp2
          go_ret2
          exact .mk HE.out (HB2.out.trans (HB.out.mono HB2.out.size))
        · have HE := Lib.hid (quS_ok HCK.out Q1.out hb)
          go_wp2
          go_ret2
          exact .mk (by rw [HE.out, bsOf_data]) (HB2.out.trans (HB.out.mono HB2.out.size))
  · have hcb : (cc != 0) = true := by simp [hcc]
    have HE := Lib.hid (quS_bad HCK.out hcc)
    go_wp2
    go_ret2
    exact .mk HE.out HB1.out
end
section
open Go.RowKit Go.Lib

/-- A printable ASCII byte by itself. -/
theorem dec_ascii {c : UInt8} (h : c.toNat ≤ 127) (x : List UInt8) : decL (c :: x) = some (c.toNat, 1) := by
  have hs : sizeB c = 1 := by unfold sizeB; rw [if_pos h]
  rw [decL, hs, if_neg (by decide), if_neg (by omega)]
  have hm : c.toNat % maskN 1 = c.toNat := Nat.mod_eq_of_lt (by show c.toNat < 128; omega)
  rw [hm]
  have hg : goodT 1 c.toNat (x.take (1 - 1)) = true := by
    unfold goodT
    rw [show x.take (1 - 1) = [] from List.take_zero]
    show ([].all contU && scalB 1 (runeV [] c.toNat)) = true
    rw [show runeV [] c.toNat = c.toNat from rfl]
    have : scalB 1 c.toNat = true := (scalB_iff 1 c.toNat).2 ⟨⟨Nat.zero_le _, h⟩, by omega⟩
    rw [this]
    rfl
  rw [if_pos hg]
  rfl
theorem badG_shift : ∀ (f : Nat) (l : List UInt8) (a b : Nat), badG f l a = none → badG f l b = none
  | 0, _, _, _, _ => rfl
  | f + 1, l, a, b, h => by
    unfold badG at h ⊢
    by_cases h1 : l = []
    · rw [if_pos h1]
    · rw [if_neg h1] at h ⊢
      cases hd : decL l with
      | none => rw [hd] at h; cases h
      | some q =>
        rw [hd] at h
        simp only at h ⊢
        by_cases h2 : hidN q.1 = true
        · rw [if_pos h2] at h; cases h
        · rw [if_neg h2] at h ⊢
          exact badG_shift f _ _ _ h
theorem bad_cons {c : UInt8} {x : List UInt8} (h1 : 32 ≤ c.toNat) (h2 : c.toNat ≤ 126) (h : badL x = none) : badL (c :: x) = none := by
  have hc : hidN c.toNat = false := by
    unfold hidN ctlN
    simp
    omega
  show badG (x.length + 1) (c :: x) 0 = none
  rw [badG, if_neg (by simp), dec_ascii (by omega)]
  simp only [hc]
  rw [if_neg (by decide), List.drop_succ_cons, List.drop_zero]
  exact badG_shift _ _ _ _ h
theorem badI_neg {x : List UInt8} : ¬ 0 ≤ badI x ↔ badL x = none := by
  unfold badI
  cases badL x with
  | none => simp
  | some a => simp
theorem bad_qtL {x : List UInt8} (h : badL x = none) : badL (qtL x) = none := by
  unfold qtL
  split
  · exact bad_cons (by decide) (by decide) h
  · exact bad_cons (by decide) (by decide) (bad_cons (by decide) (by decide) h)
/-- Lines of their own make a body without an error. -/
theorem ck_joined {l : List UInt8} {r : Int × Int} : ∀ (L : List (List UInt8)) (a : Nat), (∀ x ∈ L, (∀ c ∈ x, nlB c = true) ∧ x.length ≤ 998 ∧ badL x = none) → l.drop a = (L.map fun x => x ++ [10]).flatten → CkAt l a r → r = (0, 0)
  | [], a, _, hd, h => by
    refine h.done ?_
    have : (l.drop a).length = 0 := by rw [hd]; rfl
    rw [List.length_drop] at this
    omega
  | x :: t, a, hx, hd, h => by
    obtain ⟨x1, x2, x3⟩ := hx x (List.mem_cons_self ..)
    have e : l.drop a = x ++ 10 :: (t.map fun x => x ++ [10]).flatten := by rw [hd]; simp
    have hlen : (l.drop a).length = x.length + 1 + ((t.map fun x => x ++ [10]).flatten).length := by rw [e, List.length_append, List.length_cons]; omega
    have hl2 := hlen
    rw [List.length_drop] at hl2
    have hn : lnN l a = x.length := by
      unfold lnN
      rw [e]
      exact span_line x1
    have htk : (l.drop a).take x.length = x := by rw [e, List.take_left' rfl]
    have h2 := h.next (by omega) (by rw [hn]; omega) (by rw [hn]; exact x2) (by rw [hn, htk]; exact badI_neg.2 x3)
    rw [hn] at h2
    refine ck_joined t (a + x.length + 1) (fun y hy => hx y (List.mem_cons_of_mem _ hy)) ?_ h2
    rw [show a + x.length + 1 = a + (x.length + 1) by omega, ← List.drop_drop, e]
    have e3 : x ++ 10 :: (t.map fun x => x ++ [10]).flatten = (x ++ [10]) ++ (t.map fun x => x ++ [10]).flatten := by simp
    rw [e3, List.drop_left' (by simp)]
/-- A body without an error has lines without a hidden byte. -/
theorem ck_lines {l : List UInt8} {r : Int × Int} (hr : r.2 = 0) : ∀ (f a i : Nat), CkAt l a r → ∀ y ∈ linI f (l.drop a) i, badL y.2 = none
  | 0, _, _, _, y, hy => by cases hy
  | f + 1, a, i, h, y, hy => by
    unfold linI at hy
    by_cases h1 : l.drop a = []
    · rw [if_pos h1] at hy; cases hy
    · rw [if_neg h1] at hy
      have ha : a < l.length := by
        by_cases hlt : a < l.length
        · exact hlt
        · exact absurd (List.drop_of_length_le (by omega)) h1
      have hdl : (l.drop a).length = l.length - a := List.length_drop
      rw [hdl] at hy
      by_cases h2 : lnN l a = l.length - a
      · rw [h.short ha h2] at hr
        simp at hr
      · rw [if_neg (by exact h2)] at hy
        by_cases h9 : 998 < lnN l a
        · rw [h.long ha h2 h9] at hr
          simp at hr
        · by_cases hb : 0 ≤ badI ((l.drop a).take (lnN l a))
          · rw [h.bad ha h2 (by omega) hb] at hr
            simp at hr
          · rcases List.mem_cons.1 hy with rfl | hy
            · exact badI_neg.1 hb
            · rw [List.drop_drop] at hy
              exact ck_lines hr f _ _ (h.next ha h2 (by omega) hb) y hy
theorem quL_le : ∀ (L : List (Nat × List UInt8)) (acc out : List UInt8), quL L acc = some out → ∀ y ∈ L, (qtL y.2).length ≤ 998
  | [], _, _, _, y, hy => by cases hy
  | x :: r, acc, out, h, y, hy => by
    unfold quL at h
    by_cases hx : 998 < (qtL x.2).length
    · rw [if_pos hx] at h; cases h
    · rw [if_neg hx] at h
      rcases List.mem_cons.1 hy with rfl | hy
      · omega
      · exact quL_le r _ _ h y hy
theorem quS_parts {l : List UInt8} (h : (quS l).2 = 0) : (ckI l).2 = 0 ∧ ∃ out, quL (lineI l) [] = some out ∧ (quS l).1 = out := by
  unfold quS at h ⊢
  by_cases hc : (ckI l).2 ≠ 0
  · rw [if_pos hc] at h
    exact absurd h hc
  · rw [if_neg hc] at h ⊢
    refine ⟨Decidable.not_not.1 hc, ?_⟩
    cases hq : quL (lineI l) [] with
    | none => rw [hq] at h; exact absurd h (by decide)
    | some out =>
      rw [hq] at h
      simp only at h ⊢
      by_cases hl : 65536 < out.length
      · rw [if_pos hl] at h; exact absurd h (by decide)
      · rw [if_neg hl]
        exact ⟨out, rfl, rfl⟩
theorem quL_outs2 : ∀ (L : List (Nat × List UInt8)) (acc out : List UInt8), quL L acc = some out → out = acc ++ outL L
  | [], acc, out, h => by
    injection h with h
    rw [← h]; simp [outL]
  | x :: r, acc, out, h => by
    unfold quL at h
    by_cases hx : 998 < (qtL x.2).length
    · rw [if_pos hx] at h; cases h
    · rw [if_neg hx] at h
      rw [quL_outs2 r _ _ h]
      simp [outL]
/-- Stripping a quoted text once leaves nothing. -/
theorem strip_quoted {l : List UInt8} (h : (quS l).2 = 0) : stS 1 (quS l).1 = ([], 0) := by
  obtain ⟨hc, out, hq, ho⟩ := quS_parts h
  have hle := quL_le _ _ _ hq
  have hout : out = outL (lineI l) := by simpa using quL_outs2 _ _ _ hq
  rw [ho, hout]
  have hL := lineL_out l
  have hck : ckI (outL (lineI l)) = (0, 0) := by
    refine ck_joined ((lineL l).map qtL) 0 (fun x hx => ?_) ?_ (CkAt.zero _)
    · obtain ⟨y, hy, rfl⟩ := List.mem_map.1 hx
      obtain ⟨z, hz, rfl⟩ := List.mem_map.1 hy
      exact ⟨qtL_nl (linI_nl _ _ _ z hz), hle z hz, bad_qtL (ck_lines hc _ 0 0 (CkAt.zero l) z hz)⟩
    · rw [List.drop_zero]
      exact outL_map _
  rw [stS_ok (by decide) hck]
  have hf : (lineI (outL (lineI l))).filter (fun x => decide ((lvN x.2 : Int) < 1)) = [] := by
    rw [List.filter_eq_nil_iff]
    intro y hy
    have hm : y.2 ∈ lineL (outL (lineI l)) := List.mem_map.2 ⟨y, hy, rfl⟩
    rw [hL] at hm
    obtain ⟨z, _, hz⟩ := List.mem_map.1 hm
    have h1 := (qtL_level z).1
    rw [hz] at h1
    simp
    omega
  unfold stL
  rw [hf]
  rfl
end
section
open Go.RowKit Go.Lib

/-- The text so far. -/
def StAt (n : Int) (l : List UInt8) (k : Nat) (T : ByteArray) : Prop := k ≤ (lineI l).length ∧ T.data.toList = stL n ((lineI l).take k)
theorem StAt.keep {n : Int} {l : List UInt8} {k : Nat} {T : ByteArray} (h : StAt n l k T) (hk : k < (lineI l).length) (hn : ((lvN (lineI l)[k].2 : Nat) : Int) < n) {A : ByteArray} (hA : A.data.toList = T.data.toList ++ ((lineI l)[k].2 ++ [10])) : StAt n l (k + 1) A := by
  refine ⟨hk, ?_⟩
  rw [hA, h.2, take_snoc _ hk, stL_in hn]
theorem StAt.pass {n : Int} {l : List UInt8} {k : Nat} {T : ByteArray} (h : StAt n l k T) (hk : k < (lineI l).length) (hn : ¬ ((lvN (lineI l)[k].2 : Nat) : Int) < n) : StAt n l (k + 1) T := by
  refine ⟨hk, ?_⟩
  rw [h.2, take_snoc _ hk, stL_out hn]
theorem StAt.size {n : Int} {l : List UInt8} {k m : Nat} {T : ByteArray} (h : StAt n l k T) (hm : l.length ≤ m) (hm2 : (lineI l).length ≤ m) : T.size ≤ m * (m + 1) := by
  have h1 := stL_len n (m := m) ((lineI l).take k) (fun y hy => by have := lineI_sum (List.mem_of_mem_take hy); omega)
  rw [← h.2, show T.data.toList.length = T.size by simp] at h1
  have h2 : ((lineI l).take k).length ≤ m := by rw [List.length_take]; omega
  exact Nat.le_trans h1 (Nat.mul_le_mul_right _ h2)
theorem StPost.mk {n : Int} {l : List UInt8} {w w' : World} {A : ByteArray} {c : Int} (h : stS n l = (A.data.toList, c)) (hb : Below w.heap.size w w') : StPost n l w (.returned (.tuple #[.string A, .int .i64 c])) w' := ⟨by rw [h, strV_of], hb⟩

set_option maxRecDepth 100000 in
set_option maxHeartbeats 8000000 in
theorem rstrip_any (s : ByteArray) (n : Int) (hs : s.size ≤ 1000000) (w : World) : Calls Tryz.prog 28 #[.string s, .int .i64 n] w (StPost n s.data.toList w) := by
  have hll : s.data.toList.length = s.size := by simp
  have HLL := Lib.hid hll
  have CB := Lib.hid (rbody_any s hs)
  have CL := Lib.hid (rlines_any s hs)
  obtain ⟨⟨ca, cc⟩, hck⟩ : ∃ q, ckI s.data.toList = q := ⟨_, rfl⟩
  have HCK := Lib.hid hck
  have hlen := lineI_len s.data.toList
  rw [hll] at hlen
  have hlm : (lineL s.data.toList).length = (lineI s.data.toList).length := by unfold lineL; rw [List.length_map]
  obtain ⟨m, hn⟩ : ∃ m, (lineI s.data.toList).length = m := ⟨_, rfl⟩
  rw [hn] at hlen hlm
  have HN := Lib.hid hn
  have HLM := Lib.hid hlm
  clear hll hck hn hlm
  go_enter Tryz.func28, Tryz.ntmps28
  by_cases hn1 : n < 1
  · have HE := Lib.hid (stS_low (l := s.data.toList) hn1)
    go_wp2
    go_ret2
    exact .mk HE.out (Below.refl _ _)
  · go_wp2_with fail
    refine (CB.out _).mono ?_
    rintro e w1 ⟨rfl, hb1⟩
    rw [HCK.out]
    have HB1 := Lib.hid hb1
    clear hb1
    by_cases hcc : cc = 0
    · subst hcc
      have HE := Lib.hid (stS_ok (n := n) (by omega) HCK.out)
      go_wp2_with fail
      refine (CL.out _).mono ?_
      rintro e w2 ⟨v, rfl, hown, hb2⟩
      rw [HLM.out] at hown
      obtain ⟨A, cap, rfl⟩ := own_shape hown
      have HOW := Lib.hid hown
      have HB2 := Lib.hid (HB1.out.trans (hb2.mono HB1.out.size))
      clear hown hb2
      go_wp2_with fail
      go_loopw [8, 10] (fun v6 v8 wr => ∃ (k : Nat) (T : ByteArray), v8 = .int .i64 k ∧ v6 = .string T ∧ StAt n s.data.toList k T ∧ Below w2.heap.size w2 wr) (fun _ v _ => m - (RowKit.intOf v).toNat)
      case atStart => exact ⟨0, ⟨#[]⟩, rfl, rfl, ⟨Nat.zero_le _, rfl⟩, Below.refl _ _⟩
      case round =>
        obtain ⟨k, T, rfl, rfl, hq, hb⟩ := hrel
        have hkn : k ≤ m := by rw [← HN.out]; exact hq.1
        have hTs : T.size ≤ 1000000 * (1000000 + 1) := hq.size (by rw [HLL.out]; exact hs) (by rw [HN.out]; omega)
        have HQ := Lib.hid hq
        have HB := Lib.hid hb
        have HO := Lib.hid (own_kept HOW.out (kept_of_below hb) (fun _ _ f => f))
        clear hq hb
        by_cases hlt : k < m
        · have hlt' : k < (lineI s.data.toList).length := by rw [HN.out]; exact hlt
          obtain ⟨g, cap', he, _, hg, hc, hcell⟩ := own_cell HO.out (by omega)
          injection he with he1 _ he2
          subst he1; subst he2
          obtain ⟨X, hX⟩ : ∃ X, bsOf (lineI s.data.toList)[k].2 = X := ⟨_, rfl⟩
          have ck := hcell k (.string X) (by rw [List.getElem?_map]; unfold lineL; rw [List.getElem?_map, List.getElem?_eq_getElem hlt', ← hX]; rfl)
          have hXd : X.data.toList = (lineI s.data.toList)[k].2 := by rw [← hX, bsOf_data]
          have hXs : X.size ≤ 1000000 := by
            have h1 := lineI_sum (List.getElem_mem hlt')
            rw [HLL.out] at h1
            rw [← hX, bsOf_size]
            omega
          have CV := Lib.hid (rlevel_any X hXs wr)
          obtain ⟨lv, hlv⟩ : ∃ lv, lvN X.data.toList = lv := ⟨_, rfl⟩
          have hvl : lv ≤ 1000000 := by
            have h1 := lv_len X.data.toList
            rw [show X.data.toList.length = X.size by simp] at h1
            omega
          have HLV := Lib.hid hlv
          have HXD := Lib.hid hXd
          clear hcell hX hXd hlv
          by_cases hq : (lv : Int) < n
          · have HNX := Lib.hid (HQ.out.keep hlt' (A := T ++ (X ++ ⟨#[10]⟩)) (by rw [← HXD.out, HLV.out]; exact hq) (by rw [← HXD.out]; simp))
            have hqb : decide ((lv : Int) < n) = true := by simp; omega
            go_wp2_with fail
            refine CV.out.mono ?_
            rintro e w3 ⟨rfl, hb3⟩
            have HB3 := Lib.hid (HB.out.trans (hb3.mono HB.out.size))
            have ck3 := ((bcell hb3).1 _ _ hg).trans ck
            rw [HLV.out]
            clear hb3
            simp only [strV]
            go_wp2
            go_roundw
            case rel => exact ⟨k + 1, _, by go_num, rfl, HNX.out, HB3.out⟩
            case measure => simp [RowKit.intOf]; omega
          · have HNX := Lib.hid (HQ.out.pass hlt' (by rw [← HXD.out, HLV.out]; exact hq))
            have hqb : decide ((lv : Int) < n) = false := by simp; omega
            go_wp2_with fail
            refine CV.out.mono ?_
            rintro e w3 ⟨rfl, hb3⟩
            have HB3 := Lib.hid (HB.out.trans (hb3.mono HB.out.size))
            rw [HLV.out]
            clear hb3
            simp only [strV]
            go_wp2
            go_roundw
            case rel => exact ⟨k + 1, _, by go_num, rfl, HNX.out, HB3.out⟩
            case measure => simp [RowKit.intOf]; omega
        · have HF : Hid (stS n s.data.toList = (T.data.toList, 0)) := Lib.hid (by
            rw [HE.out, HQ.out.2, List.take_of_length_le (by rw [HN.out]; omega)])
          go_wp2
          go_ret2
          exact .mk HF.out (HB2.out.trans (HB.out.mono HB2.out.size))
    · have hcb : (cc != 0) = true := by simp [hcc]
      have HE := Lib.hid (stS_bad (n := n) (by omega) HCK.out hcc)
      go_wp2
      go_ret2
      exact .mk HE.out HB1.out
end
section
open Go.RowKit Go.Lib

theorem short_any (s : ByteArray) (n : Nat) (hs : s.size ≤ 9223372036854775807) (hn : n ≤ 1000000) (w : World) : Calls Tryz.prog 11 #[.string s, .int .i64 (n : Int)] w fun e w' => e = .returned (.string (s.extract 0 (min s.size n))) ∧ w' = w := by
  have e3 : (min (s.size : Int) (n : Int)).toNat = min s.size n := by omega
  have E3 := Lib.hid e3
  clear e3
  by_cases h : s.size < n
  · go_enter Tryz.func11, Tryz.ntmps11
    go_wp2
    go_ret
    refine ⟨?_, rfl⟩
    show Ending.returned (.string (s.extract 0 (min (s.size : Int) (n : Int)).toNat)) = _
    rw [E3.out]
  · go_enter Tryz.func11, Tryz.ntmps11
    go_wp2
    go_ret
    refine ⟨?_, rfl⟩
    show Ending.returned (.string (s.extract 0 (min (s.size : Int) (n : Int)).toNat)) = _
    rw [E3.out]
theorem short_size (s : ByteArray) (n : Nat) : (s.extract 0 (min s.size n)).size ≤ n := by simp; omega

end
end Go.Proofs.YteecmcphbehfgaaGreatDoor
