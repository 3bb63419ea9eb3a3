/- The main walk of bulletinlaw32.TransferOnce over this translation.
   Conditions: none beyond the form's own reach of each argument. -/
import Derived.Test.YtoeapcfnbomlgaaTrG
import Derived.Deep.DeepCutAuto
namespace Go.Proofs.Ytoeapcfnbomlgaa
open Go.RowKit Go.Lib

attribute [local go_sem ↓] S_ld_id S_ld_cmd S_ld_rcmd S_ld_R S_st_cmd S_st_rcmd S_st_R S_st_tk S_al_cmd S_al_rcmd S_al_R S_eq_id S_ne_id S_bd_recv S_bd_send S_bd_cmd S_bd_rcmd S_bd_R S_bd_id
attribute [local go_sem] runS_ld_id runS_ld_cmd runS_ld_rcmd runS_ld_R runS_st_cmd runS_st_rcmd runS_st_R runS_st_tk runS_al_cmd runS_al_rcmd runS_al_R runS_eq_id runS_ne_id guard_id runS_bd_recv2 runS_bd_recv3 runS_bd_send runS_bd_cmd4 runS_bd_cmd2 runS_bd_cmd0 runS_bd_rcmd runS_bd_R runS_bd_one
attribute [local go_sem] isPtr_some addrOf_some aggAt_drew aggAt_drewN hasAt_drew hasAt_drewN aggAt_alloc_old hasAt_alloc_old aggAt_setCell hasAt_setCell aggAt_set_apart hasAt_set_apart aggAt_new hasAt_new canPut_new canPut_drew canPut_drewN canPut_setCell putAgg_new cells_agg isAggOf_mk
  isInt_mk isStr_mk isBool_mk intOf'_mk strOf_mk boolOf_mk isBytes_true bytesOf_mk toId_val kL_whole rL_whole cL_whole take_byteCells byteCells_len' byteCells_all
  vL_length cL_length kL_length rL_length sL_length cL_0 cL_35 cL_38 cL_id cL_all kL_0 kL_33 kL_34 kL_id kL_all rL_32 rL_33 rL_34 rL_id rL_all rL_set33 rL_set34 kL_set33 kL_set34 cL_g0 cL_g35 cL_g38 kL_g0 kL_g33 kL_g34 rL_g32 rL_g33 rL_g34

/-- What holds at the head of a round of the outer loop. -/
def ORel (w : World) (rb : Nat) (id : Id) (T : ByteArray) (len : Nat) (i : Value) (wr : World) : Prop :=
  ∃ (k : Nat) (bs : List UInt8) (d : Bool) (g : Option Nat), k ≤ len + 1 ∧ i = .int .i64 k ∧ Rcv (w.heap.size + 1) rb id T.size bs d g wr ∧ bs <+: T.data.toList ∧ (d = true → bs.length = T.size) ∧ (k = len + 1 → d = true) ∧
    Kept (fun _ => False) w wr ∧ wr.heap[w.heap.size]? = some (.cells (byteCells id.1).toArray 23 (0, 0))

/-- What holds behind the choice of the chunk: the receiver is as it was. -/
def OMid (w : World) (rb : Nat) (id : Id) (T : ByteArray) (len k : Nat) (bs : List UInt8) (d : Bool) (vc va : Value) (wr : World) : Prop :=
  ∃ (chunk arrive : Int) (g : Option Nat), vc = .int .i64 chunk ∧ va = .int .i64 arrive ∧ 1 ≤ chunk ∧ chunk ≤ 4096 ∧ 0 ≤ arrive ∧ arrive ≤ 10000 ∧ (k = len → arrive = 10000) ∧ Rcv (w.heap.size + 1) rb id T.size bs d g wr ∧
    Kept (fun _ => False) w wr ∧ wr.heap[w.heap.size]? = some (.cells (byteCells id.1).toArray 23 (0, 0))

/-- What holds at the head of a round of the inner loop. -/
def IRel (w : World) (rb sb : Nat) (id : Id) (T : ByteArray) (chunk : Int) (ar len0 : Nat) (v : Value) (wx : World) : Prop :=
  ∃ (m : Nat) (bs : List UInt8) (d : Bool) (g : Option Nat), m ≤ ar ∧ v = .int .i64 m ∧ Rcv (w.heap.size + 1) rb id T.size bs d g wx ∧ Snd sb id T chunk bs.length d wx ∧ bs <+: T.data.toList ∧ (d = true → bs.length = T.size) ∧ len0 ≤ bs.length ∧
    (d = true ∨ len0 + m ≤ bs.length) ∧ (∀ j, g = some j → j ≠ sb) ∧ Kept (fun _ => False) w wx ∧ wx.heap[w.heap.size]? = some (.cells (byteCells id.1).toArray 23 (0, 0))

set_option maxRecDepth 10000 in
set_option maxHeartbeats 4000000 in
theorem once_run {id : Id} {text : ByteArray} {n : Int} {A : Option Addr} {len cap : Nat} {E : Nat → (Int × Int) × (Int × Id × Int × ByteArray)} (w : World) (hC : Atts A len E w) (ht : text.size ≤ 300) (hl : len ≤ 20) (hn0 : 0 ≤ n) (hn1 : n ≤ 65535) :
    Calls Try.prog 5 #[.agg (byteCells id.1).toArray, .string text, .int .u16 n, .slice A len cap] w fun e w' => e = .returned (.bool true) ∧ Kept (fun _ => False) w w' := by
  go_enter Try.func5, Try.ntmps5
  go_wp2_with fail
  refine (known_any _).mono ?_
  rintro e w1 ⟨rfl, hk⟩
  have HI1 := Lib.hid (hk.heap (heap_alloc_new w (.cells (byteCells id.1).toArray 23)) (fun f => f))
  have HK1 := Lib.hid (((Kept.refl (fun _ => False) w).alloc _).trans hk (fun _ _ f => f))
  clear hk
  go_wp2_with fail
  refine (length_any text n _ ht hn0 hn1).mono ?_
  rintro e w2 ⟨T, rfl, hT, hk2⟩
  have HI2 := Lib.hid (hk2.heap HI1.out (fun f => f))
  have HK2 := Lib.hid (HK1.out.trans hk2 (fun _ _ f => f))
  obtain ⟨il, ia, ih⟩ := idAt_of HI2.out
  clear hk2 HI1 HK1
  go_wp2_with fail
  refine (newReceiver_ok (w.heap.size + 1) id T.size _ (by omega) (by omega) (by omega)).mono ?_
  rintro e w3 ⟨rfl, hR, hk3⟩
  have HI3 := Lib.hid (hk3.heap HI2.out (fun f => f))
  have HK3 := Lib.hid (HK2.out.trans hk3 (fun _ _ f => f))
  have HR := Lib.hid hR
  have HC := Lib.hid hC
  clear hk3 hR hC HI2 HK2 ia ih
  go_wp2_with fail
  go_loopw [11] (fun i wr => ORel w (w2.heap.size + 1) id T len i wr) (fun i _ => len + 1 - (RowKit.intOf i).toNat)
  case atStart => exact ⟨0, [], false, none, Nat.zero_le _, rfl, HR.out, List.nil_prefix, fun h => (by cases h), fun h => by omega, HK3.out, HI3.out⟩
  case round =>
    obtain ⟨k, bs, d, g, hk, rfl, hR, hp, hd, hkd, hK, hI⟩ := hrel
    have hbl : bs.length ≤ T.size := by have := hp.length_le; simpa using this
    have HR' := Lib.hid hR
    have HP := Lib.hid hp
    have HD := Lib.hid hd
    have HKD := Lib.hid hkd
    have HKK := Lib.hid hK
    have HII := Lib.hid hI
    clear hR hp hd hkd hK hI
    by_cases hlt : k ≤ len
    · go_upto_if 57 with (fail)
      go_cut [12, 13] (fun vc va wx => OMid w (w2.heap.size + 1) id T len k bs d vc va wx)
      case first =>
        by_cases hlt2 : k < len
        · have hC := HC.out.kept HKK.out (fun _ _ f => f)
          obtain ⟨ad, rfl, hb0⟩ := HC.out.at_ (by omega)
          have hb : ad.block < wr.heap.size := Nat.lt_of_lt_of_le hb0 HKK.out.size
          obtain ⟨cc0, cc1⟩ := hC.c0 k ad hlt2 rfl
          obtain ⟨hag, hha⟩ := hC.agg k ad hlt2 rfl
          obtain ⟨s1, s2, s3, s4, s5, s6, s7⟩ := hC.small k hlt2
          generalize E k = q at cc0 cc1 hag s1 s2 s3 s4 s5 s6 s7
          obtain ⟨⟨ch, ar⟩, v, cid, fr, t⟩ := q
          simp only at cc0 cc1 hag s1 s2 s3 s4 s5 s6 s7
          clear hC
          go_wp2_with fail
          go_region
          go_wp2_with fail
          have hY : Ys w (w2.heap.size + 1) wr.heap.size id T.size bs d v cid fr t (putAgg (wr.alloc (.cells (kL 0 idZ 0 ⟨#[]⟩).toArray 31)).drew ⟨wr.heap.size, 0, none⟩ (kL v cid fr t)) := by
            have hk0 : Kept (fun _ => False) wr (wr.alloc (.cells (kL 0 idZ 0 ⟨#[]⟩).toArray 31)).drew := ((Kept.refl _ wr).alloc _).drew
            have hk1 : Kept (fun _ => False) wr (putAgg (wr.alloc (.cells (kL 0 idZ 0 ⟨#[]⟩).toArray 31)).drew ⟨wr.heap.size, 0, none⟩ (kL v cid fr t)) := Kept.putAgg hk0 (fun f => absurd f (Nat.lt_irrefl _)) _
            exact ⟨g, HR'.out.kept hk1 (fun f => f) (fun _ _ f => f), fun j hj => by have := (HR'.out.glt j hj).2; omega, kat_put (w := (wr.alloc (.cells (kL 0 idZ 0 ⟨#[]⟩).toArray 31)).drew) (show KAt wr.heap.size 0 idZ 0 ⟨#[]⟩ _ from heap_alloc_new wr _) v cid fr t, hk1.heap HII.out (fun f => f), HKK.out.trans hk1 (fun _ _ f => f)⟩
          generalize putAgg _ _ _ = wm at hY ⊢
          clear hag hha cc0 cc1
          obtain ⟨ι, hι, W, i0, h0', k0, k33, k34, ka1, kh1, kag, kha, ida, idh, cF, cO, cH, HYS⟩ := once_family (by have := HR'.out.facts.lt; omega) (by omega) (by have := HKK.out.size; omega) hY (by omega) (by omega) (by omega)
          have H0 := Lib.hid h0'
          have HEND : ∀ j, OMid w (w2.heap.size + 1) id T len k bs d (.int .i64 (1 + ch % 4096)) (.int .i64 ar) (W j) := fun j => by
            obtain ⟨g', hR', _, _, hI', hK'⟩ := HYS.out j
            exact ⟨_, _, g', rfl, rfl, by omega, by omega, by omega, by omega, fun h => by omega, hR', hK', hI'⟩
          clear hY h0'
          by_cases hP : t.size ≤ 300
          · have p1 : decide ((t.size : Int) ≤ 300) = true := decide_eq_true (by omega)
            have p2 : decide (t.size ≤ 300) = true := decide_eq_true hP
            cases hA : (cid.1 == id.1)
            · obtain ⟨hs1, hs2⟩ := hearS_strange (id := id) (n := T.size) (bs := bs) (d := d) (v := v) (cid := cid) (fr := fr) (t := t) (.inl hA)
              have cH' := cH hP hs1
              generalize (hearS id T.size bs d v cid fr t).2 = code at cH' hs2 ⊢
              clear hs1
              refine wp_region_quiet_C (C := fun w' => ∃ i, w' = W i) (by kernel_rfl) (by kernel_rfl) ⟨i0, H0.out⟩ ?_
              repeat (go_big_quiet_step (first
                | (go_at_call 10; exact cF.out _)
                | (go_at_call 9; exact cO.out _)
                | (go_at_call 8; exact cH'.out _)))
              refine wpQuiet_nil ?_
              rintro w' ⟨j, rfl⟩
              go_wp2_with fail
              go_meet
              exact HEND j
            · by_cases hv7 : v = 7
              · subst hv7
                by_cases hf : fr = bs.length
                · subst hf
                  have f1 : ((bs.length : Int) != bs.length) = false := by rw [bne, beq_self_eq_true]; rfl
                  refine wp_region_quiet_C (C := fun w' => ∃ i, w' = W i) (by kernel_rfl) (by kernel_rfl) ⟨i0, H0.out⟩ ?_
                  repeat (go_big_quiet_step (first
                    | (go_at_call 10; exact cF.out _)
                    | (go_at_call 9; exact cO.out _)))
                  refine wpQuiet_nil ?_
                  rintro w' ⟨j, rfl⟩
                  go_wp2_with fail
                  go_meet
                  exact HEND j
                · have f1 : (fr != (bs.length : Int)) = true := by rw [bne, beq_eq_false_iff_ne.2 hf]; rfl
                  obtain ⟨hs1, hs2⟩ := hearS_strange (id := id) (n := T.size) (bs := bs) (d := d) (v := 7) (cid := cid) (fr := fr) (t := t) (.inr (.inl ⟨hf, rfl⟩))
                  have cH' := cH hP hs1
                  generalize (hearS id T.size bs d 7 cid fr t).2 = code at cH' hs2 ⊢
                  clear hs1
                  clear hf
                  refine wp_region_quiet_C (C := fun w' => ∃ i, w' = W i) (by kernel_rfl) (by kernel_rfl) ⟨i0, H0.out⟩ ?_
                  repeat (go_big_quiet_step (first
                    | (go_at_call 10; exact cF.out _)
                    | (go_at_call 9; exact cO.out _)
                    | (go_at_call 8; exact cH'.out _)))
                  refine wpQuiet_nil ?_
                  rintro w' ⟨j, rfl⟩
                  go_wp2_with fail
                  go_meet
                  exact HEND j
              · by_cases hv8 : v = 8
                · subst hv8
                  clear hv7
                  by_cases hf : fr = bs.length
                  · subst hf
                    have f1 : ((bs.length : Int) != bs.length) = false := by rw [bne, beq_self_eq_true]; rfl
                    refine wp_region_quiet_C (C := fun w' => ∃ i, w' = W i) (by kernel_rfl) (by kernel_rfl) ⟨i0, H0.out⟩ ?_
                    repeat (go_big_quiet_step (first
                      | (go_at_call 10; exact cF.out _)
                      | (go_at_call 9; exact cO.out _)))
                    refine wpQuiet_nil ?_
                    rintro w' ⟨j, rfl⟩
                    go_wp2_with fail
                    go_meet
                    exact HEND j
                  · have f1 : (fr != (bs.length : Int)) = true := by rw [bne, beq_eq_false_iff_ne.2 hf]; rfl
                    clear hf
                    refine wp_region_quiet_C (C := fun w' => ∃ i, w' = W i) (by kernel_rfl) (by kernel_rfl) ⟨i0, H0.out⟩ ?_
                    repeat (go_big_quiet_step (first
                      | (go_at_call 10; exact cF.out _)
                      | (go_at_call 9; exact cO.out _)))
                    refine wpQuiet_nil ?_
                    rintro w' ⟨j, rfl⟩
                    go_wp2_with fail
                    go_meet
                    exact HEND j
                · have v7 : (v == 7) = false := beq_eq_false_iff_ne.2 hv7
                  have v7' : (v != 7) = true := by rw [bne, v7]; rfl
                  have v8' : (v != 8) = true := by rw [bne, beq_eq_false_iff_ne.2 hv8]; rfl
                  obtain ⟨hs1, hs2⟩ := hearS_strange (id := id) (n := T.size) (bs := bs) (d := d) (v := v) (cid := cid) (fr := fr) (t := t) (.inr (.inr ⟨hv7, hv8⟩))
                  have cH' := cH hP hs1
                  generalize (hearS id T.size bs d v cid fr t).2 = code at cH' hs2 ⊢
                  clear hs1
                  clear hv7 hv8
                  by_cases hf : fr = bs.length
                  · subst hf
                    have f1 : ((bs.length : Int) != bs.length) = false := by rw [bne, beq_self_eq_true]; rfl
                    refine wp_region_quiet_C (C := fun w' => ∃ i, w' = W i) (by kernel_rfl) (by kernel_rfl) ⟨i0, H0.out⟩ ?_
                    repeat (go_big_quiet_step (first
                      | (go_at_call 10; exact cF.out _)
                      | (go_at_call 9; exact cO.out _)
                      | (go_at_call 8; exact cH'.out _)))
                    refine wpQuiet_nil ?_
                    rintro w' ⟨j, rfl⟩
                    go_wp2_with fail
                    go_meet
                    exact HEND j
                  · have f1 : (fr != (bs.length : Int)) = true := by rw [bne, beq_eq_false_iff_ne.2 hf]; rfl
                    clear hf
                    refine wp_region_quiet_C (C := fun w' => ∃ i, w' = W i) (by kernel_rfl) (by kernel_rfl) ⟨i0, H0.out⟩ ?_
                    repeat (go_big_quiet_step (first
                      | (go_at_call 10; exact cF.out _)
                      | (go_at_call 9; exact cO.out _)
                      | (go_at_call 8; exact cH'.out _)))
                    refine wpQuiet_nil ?_
                    rintro w' ⟨j, rfl⟩
                    go_wp2_with fail
                    go_meet
                    exact HEND j
          · have p1 : decide ((t.size : Int) ≤ 300) = false := decide_eq_false (by omega)
            have p2 : decide (t.size ≤ 300) = false := decide_eq_false hP
            refine wp_region_quiet_C (C := fun w' => ∃ i, w' = W i) (by kernel_rfl) (by kernel_rfl) ⟨i0, H0.out⟩ ?_
            repeat (go_big_quiet_step (first
              | (go_at_call 10; exact cF.out _)
              | (go_at_call 9; exact cO.out _)))
            refine wpQuiet_nil ?_
            rintro w' ⟨j, rfl⟩
            go_wp2_with fail
            go_meet
            exact HEND j
        · obtain rfl : k = len := by omega
          go_wp2_with fail
          go_meet
          exact ⟨4096, 10000, g, rfl, rfl, by omega, by omega, by omega, by omega, fun _ => rfl, HR'.out, HKK.out, HII.out⟩
      case rest =>
        clear HR' HKK HII HK3 HI3 HR HC
        obtain ⟨chunk, arr, g1, rfl, rfl, hc1, hc2, ha0, ha1, hka, hR, hK, hI⟩ := hcut
        obtain ⟨ar, rfl⟩ : ∃ a : Nat, arr = a := ⟨arr.toNat, by omega⟩
        have HKA := Lib.hid hka
        have HK := Lib.hid hK
        have HI := Lib.hid hI
        have HR := Lib.hid hR
        clear hka hK hI hR
        cases d
        · obtain ⟨il4, ia4, ih4⟩ := idAt_of HI.out
          go_wp2_with fail
          refine (complete_any HR.out).mono ?_
          rintro e w' ⟨rfl, rfl⟩
          go_wp2_with fail
          refine (from_any HR.out).mono ?_
          rintro e w' ⟨rfl, rfl⟩
          go_wp2_with fail
          refine (newSender_ok id T chunk bs.length _ (by omega) hc1 hc2 (by omega) (by omega)).mono ?_
          rintro e y1 ⟨rfl, hS, hk1⟩
          have HS := Lib.hid hS
          have HR1 := Lib.hid (HR.out.kept hk1 (fun f => f) (fun _ _ f => f))
          have HI1 := Lib.hid (hk1.heap HI.out (fun f => f))
          have HK1 := Lib.hid (HK.out.trans hk1 (fun _ _ f => f))
          have HSZ := Lib.hid hk1.size
          clear hS hk1 ia4 ih4
          have hrlt := HR.out.facts.lt
          have hglt := Lib.hid HR.out.glt
          obtain ⟨wz, rfl⟩ : ∃ x, x = wr := ⟨_, rfl⟩
          go_wp2_with fail
          go_loopw [18, 19, 20] (fun v _ _ wx => IRel w (w2.heap.size + 1) (wc.heap.size + 1) id T chunk ar bs.length v wx) (fun v _ _ _ => ar - (RowKit.intOf v).toNat)
          case atStart =>
            exact ⟨0, bs, false, g1, Nat.zero_le _, rfl, HR1.out, HS.out, HP.out, (fun f => by cases f), Nat.le_refl _, .inr (Nat.le_refl _), fun j hj => by have := (hglt.out j hj).2; omega, HK1.out, HI1.out⟩
          case round =>
            obtain ⟨m, bs2, d2, g2, hm, rfl, hR2, hS2, hp2, hd2, hb2, hpr, hg2, hK2, hI2⟩ := hrel
            have hsb := hS2.lt
            have HR2 := Lib.hid hR2
            have HS2 := Lib.hid hS2
            have HP2 := Lib.hid hp2
            have HD2 := Lib.hid hd2
            have HPR := Lib.hid hpr
            have HG2 := Lib.hid hg2
            have HK2 := Lib.hid hK2
            have HI2 := Lib.hid hI2
            have hbl2 : bs2.length ≤ T.size := by have := hp2.length_le; simpa using this
            clear hR2 hS2 hp2 hd2 hpr hg2 hK2 hI2
            by_cases hlt3 : m < ar
            · cases d2
              · go_wp2_with fail
                refine (say_any (B := w.heap.size + 1) (rb := w2.heap.size + 1) HS2.out hT hc1 hc2 HP2.out).mono ?_
                rintro e y2 ⟨v, fr, t, bs3, d3, rfl, hS3, hk3, hp3, hd3, hb3, hpr3, HH⟩
                have HS3 := Lib.hid hS3
                have HK3 := Lib.hid hk3
                have HP3 := Lib.hid hp3
                have HD3 := Lib.hid hd3
                have HPR3 := Lib.hid hpr3
                clear hS3 hk3 hp3 hd3 hpr3
                go_wp2_with fail
                refine (HH.out g2 _ ((HR2.out.kept HK3.out (fun f => by have f' : w2.heap.size + 1 = wc.heap.size + 1 := f; omega) (fun j hj f => HG2.out j hj f)).alloc _) (by have := HK3.out.size; simp; omega)).mono ?_
                rintro e y3 ⟨rfl, g3, hR4, hk4, hg4⟩
                have HR4 := Lib.hid hR4
                have HK4 := Lib.hid hk4
                have HG4 := Lib.hid hg4
                clear hR4 hk4 hg4
                (try go_wp2)
                go_roundw
                case rel =>
                  have z3 := HK3.out.size
                  refine ⟨m + 1, bs3, d3, g3, by omega, by go_num, HR4.out, (HS3.out.kept (F := fun _ => False) ((Kept.refl _ y2).alloc _) (fun f => f)).kept HK4.out ?_, HP3.out, HD3.out, by omega, ?_, ?_, ((HK2.out.trans HK3.out ?_).alloc _).trans HK4.out ?_, HK4.out.heap ((Below.heap_alloc y2 _ _ (by omega)).trans (HK3.out.heap HI2.out ?_)) ?_⟩
                  · rintro (f | f)
                    · omega
                    · exact HG2.out _ f rfl
                  · rcases HPR3.out with f | f
                    · exact .inl f
                    · rcases HPR.out with f' | f'
                      · cases f'
                      · exact .inr (by omega)
                  · intro j hj
                    rcases HG4.out with f | f
                    · rw [f] at hj; exact HG2.out j hj
                    · have := f j hj; simp at this; omega
                  · intro j hj f
                    have f' : j = wc.heap.size + 1 := f
                    omega
                  · rintro j hj (f | f)
                    · omega
                    · have := (HR2.out.glt j f).1; omega
                  · intro f
                    have f' : w.heap.size = wc.heap.size + 1 := f
                    omega
                  · rintro (f | f)
                    · omega
                    · have := (HR2.out.glt _ f).1; omega
                case measure => simp [RowKit.intOf]; omega
              · go_wp2_with fail
                refine (say_ended HS2.out).mono ?_
                rintro e y2 ⟨rfl, hk3⟩
                have HK3 := Lib.hid hk3
                clear hk3
                have HR3 : Hid (Rcv (w.heap.size + 1) (w2.heap.size + 1) id T.size bs2 true g2 (y2.alloc (.cells (cL 0 ⟨#[]⟩ idZ 0 0 0 0 ⟨#[]⟩).toArray 34))) := Lib.hid ((HR2.out.kept HK3.out (fun f => f) (fun _ _ f => f)).alloc _)
                have HS3 : Hid (Snd (wc.heap.size + 1) id T chunk bs2.length true (y2.alloc (.cells (cL 0 ⟨#[]⟩ idZ 0 0 0 0 ⟨#[]⟩).toArray 34))) := Lib.hid ((HS2.out.kept HK3.out (fun f => f)).kept (F := fun _ => False) ((Kept.refl _ _).alloc _) (fun f => f))
                go_wp2_with fail
                refine (from_any HR3.out).mono ?_
                rintro e w' ⟨rfl, rfl⟩
                go_wp2_with fail
                refine (from_any HR3.out).mono ?_
                rintro e w' ⟨rfl, rfl⟩
                go_wp2_with fail
                refine (sent_any HS3.out).mono ?_
                rintro e w' ⟨rfl, rfl⟩
                go_wp2_with fail
                have z3 := HK3.out.size
                exact ⟨⟨k + 1, bs2, true, g2, by omega, by go_num, HR3.out, HP2.out, fun _ => HD2.out (by trivial), fun _ => rfl, ((HK2.out.trans HK3.out (fun _ _ f => f)).alloc _), (Below.heap_alloc y2 _ _ (by omega)).trans (HK3.out.heap HI2.out (fun f => f))⟩, by simp [RowKit.intOf]; omega⟩
            · obtain rfl : m = ar := by omega
              go_wp2_with fail
              refine (from_any HR2.out).mono ?_
              rintro e w' ⟨rfl, rfl⟩
              go_wp2_with fail
              refine (from_any HR2.out).mono ?_
              rintro e w' ⟨rfl, rfl⟩
              go_wp2_with fail
              refine (sent_any HS2.out).mono ?_
              rintro e w' ⟨rfl, rfl⟩
              go_wp2_with fail
              refine ⟨⟨k + 1, bs2, d2, g2, by omega, by go_num, HR2.out, HP2.out, HD2.out, fun h => ?_, HK2.out, HI2.out⟩, by simp [RowKit.intOf]; omega⟩
              have h10 := HKA.out (by omega)
              rcases HPR.out with f | f
              · exact f
              · omega
        · have hbT : bs.length = T.size := HD.out rfl
          have hbe : bs = T.data.toList := HP.out.eq_of_length (by simpa using hbT)
          subst hbe
          go_wp2_with fail
          refine (complete_any HR.out).mono ?_
          rintro e w' ⟨rfl, rfl⟩
          go_wp2_with fail
          refine (text_T HR.out).mono ?_
          rintro e y1 ⟨rfl, hR1, hk1⟩
          have HR1 := Lib.hid hR1
          have HK1 := Lib.hid hk1
          clear hR1 hk1
          go_wp2_with fail
          refine (from_T HR1.out).mono ?_
          rintro e w' ⟨rfl, rfl⟩
          go_wp2
          go_ret
          exact ⟨rfl, HK.out.trans HK1.out (fun j hj f => by have := (HR.out.glt j f).1; omega)⟩
    · obtain rfl : k = len + 1 := by omega
      have hdt := HKD.out rfl
      subst hdt
      have hbT : bs.length = T.size := HD.out rfl
      have hbe : bs = T.data.toList := HP.out.eq_of_length (by simpa using hbT)
      subst hbe
      go_wp2_with fail
      refine (text_T HR'.out).mono ?_
      rintro e y1 ⟨rfl, hR1, hk1⟩
      have HR1 := Lib.hid hR1
      have HK1 := Lib.hid hk1
      clear hR1 hk1
      go_wp2_with fail
      refine (from_T HR1.out).mono ?_
      rintro e w' ⟨rfl, rfl⟩
      go_wp2
      go_ret
      exact ⟨rfl, HKK.out.trans HK1.out (fun j hj f => by have := (HR'.out.glt j f).1; omega)⟩
end Go.Proofs.Ytoeapcfnbomlgaa
