/- The walk of bulletinlaw32.TransferPrefix over this translation.
   Conditions: none beyond the form's own reach of each argument. -/
import Derived.Test.YtoeapcfnbomlgaaTr3
import Derived.Test.YtoeapcfnbomlgaaTrK2
namespace Go.Proofs.Ytoeapcfnbomlgaa
open Go.RowKit Go.Lib

attribute [local go_sem ↓] S_ld_id S_ld_cmd S_ld_rcmd S_ld_R S_st_cmd S_st_rcmd S_st_R S_st_tk S_al_cmd S_al_rcmd S_al_R S_eq_id S_ne_id S_bd_recv S_bd_send S_bd_cmd S_bd_rcmd S_bd_R S_bd_id
attribute [local go_sem] runS_ld_id runS_ld_cmd runS_ld_rcmd runS_ld_R runS_st_cmd runS_st_rcmd runS_st_R runS_st_tk runS_al_cmd runS_al_rcmd runS_al_R runS_eq_id runS_ne_id guard_id runS_bd_recv2 runS_bd_recv3 runS_bd_send runS_bd_cmd4 runS_bd_cmd2 runS_bd_cmd0 runS_bd_rcmd runS_bd_R runS_bd_one
attribute [local go_sem] isPtr_some addrOf_some aggAt_drew aggAt_drewN hasAt_drew hasAt_drewN aggAt_alloc_old hasAt_alloc_old aggAt_setCell hasAt_setCell aggAt_set_apart hasAt_set_apart aggAt_new hasAt_new canPut_new canPut_drew canPut_drewN canPut_setCell putAgg_new cells_agg isAggOf_mk
  isInt_mk isStr_mk isBool_mk intOf'_mk strOf_mk boolOf_mk isBytes_true bytesOf_mk toId_val kL_whole rL_whole cL_whole take_byteCells byteCells_len' byteCells_all
  vL_length cL_length kL_length rL_length sL_length cL_0 cL_35 cL_38 cL_id cL_all kL_0 kL_33 kL_34 kL_id kL_all rL_32 rL_33 rL_34 rL_id rL_all rL_set33 rL_set34 kL_set33 kL_set34 cL_g0 cL_g35 cL_g38 kL_g0 kL_g33 kL_g34 rL_g32 rL_g33 rL_g34



theorem idAt_of {b : Nat} {id : Id} {T : TypeId} {w : World} (h : w.heap[b]? = some (.cells (byteCells id.1).toArray T (0, 0))) : b < w.heap.size ∧ aggAt w ⟨b, 0, none⟩ 32 = byteCells id.1 ∧ hasAt w ⟨b, 0, none⟩ 32 :=
  ⟨(Array.getElem?_eq_some_iff.1 h).1, (aggAt_of h 0 32 (by rw [List.size_toArray, byteCells_len']; decide)).trans (take_byteCells id), hasAt_of h 0 32 (by rw [List.size_toArray, byteCells_len']; decide)⟩

/-- The elements of a []bulletinref32.Command: element k is (verb, id, from, text). -/
structure Cmds (A : Option Addr) (len : Nat) (E : Nat → Int × Id × Int × ByteArray) (w : World) : Prop where
  at_ : 0 < len → ∃ ad, A = some ad ∧ ad.block < w.heap.size
  agg : ∀ k ad, k < len → A = some ad → aggAt w (ad.add (k * 35)) 35 = kL (E k).1 (E k).2.1 (E k).2.2.1 (E k).2.2.2 ∧ hasAt w (ad.add (k * 35)) 35
  small : ∀ k, k < len → (E k).2.2.2.size ≤ 140737488355328 ∧ -9223372036854775808 ≤ (E k).2.2.1 ∧ (E k).2.2.1 ≤ 9223372036854775807

theorem Cmds.kept {F : Nat → Prop} {A : Option Addr} {len : Nat} {E : Nat → Int × Id × Int × ByteArray} {w w' : World} (h : Cmds A len E w) (hk : Kept F w w') (hF : ∀ k, k < w.heap.size → ¬ F k) : Cmds A len E w' := by
  refine ⟨fun hl => ?_, fun k ad hk' ha => ?_, h.small⟩
  · obtain ⟨ad, ha, hb⟩ := h.at_ hl
    exact ⟨ad, ha, Nat.lt_of_lt_of_le hb hk.size⟩
  · obtain ⟨ad', ha', hb⟩ := h.at_ (by omega)
    rw [ha] at ha'
    injection ha' with ha'
    subst ha'
    have e : w'.heap[(ad.add (k * 35)).block]? = w.heap[(ad.add (k * 35)).block]? := by
      rw [add_block]; exact hk.block _ hb (hF _ hb)
    have := h.agg k ad hk' ha
    exact ⟨(aggAt_block e 35).trans this.1, by rw [hasAt_block e]; exact this.2⟩

set_option maxHeartbeats 1000000 in
theorem prefix_known {id : Id} {text : ByteArray} {A : Option Addr} {len cap : Nat} (w : World) (h : 300 < text.size ∨ (text.size ≤ 300 ∧ 30 < len)) :
    Calls Try.prog 3 #[.agg (byteCells id.1).toArray, .string text, .slice A len cap] w fun e w' => e = .returned (.bool true) ∧ Kept (fun _ => False) w w' := by
  rcases h with h | ⟨h0, h⟩
  all_goals
    go_enter Try.func3, Try.ntmps3
    go_wp2_with fail
    refine (known_any _).mono ?_
    rintro e w1 ⟨rfl, hk⟩
    go_wp2_with fail
    refine (known_any _).mono ?_
    rintro e w2 ⟨rfl, hk2⟩
    go_wp2
    go_ret
    exact ⟨rfl, ((Kept.refl _ w).alloc _).trans hk (fun _ _ f => f) |>.trans hk2 (fun _ _ f => f)⟩

/-- What a receiver holds stays a beginning of the text. -/
theorem hearS_prefix {n : Int} {id : Id} {bs T : List UInt8} {d : Bool} {v : Int} {cid : Id} {fr : Int} {t : ByteArray} (hn : n = T.length) (hp : bs <+: T) (hd : d = true → bs.length = T.length)
    (ht : fr = bs.length → bs ++ t.data.toList <+: T) :
    bs.length ≤ (hearS id n bs d v cid fr t).1.1.length ∧ (hearS id n bs d v cid fr t).1.1 <+: T ∧ ((hearS id n bs d v cid fr t).1.2 = true → (hearS id n bs d v cid fr t).1.1.length = T.length) := by
  have hl := hp.length_le
  subst hn
  unfold hearS
  by_cases h1 : d = true
  · simp only [h1, if_true]; exact ⟨Nat.le_refl _, hp, fun _ => hd h1⟩
  · rw [if_neg h1]
    have same : bs.length ≤ bs.length ∧ bs <+: T ∧ (d = true → bs.length = T.length) := ⟨Nat.le_refl _, hp, fun h => absurd h h1⟩
    split
    · exact same
    · split
      · exact same
      · split
        · split
          · exact same
          · rename_i hn
            refine ⟨Nat.le_refl _, hp, fun _ => ?_⟩
            show bs.length = T.length
            omega
        · split
          · exact same
          · rename_i hf
            split
            · exact same
            · refine ⟨by simp, ht (by omega), fun h => absurd h h1⟩

theorem extract_prefix {T : ByteArray} {bs : List UInt8} {m : Nat} (hp : bs <+: T.data.toList) (hm : m ≤ T.size) : bs ++ (T.extract bs.length m).data.toList <+: T.data.toList := by
  obtain ⟨r, hr⟩ := hp
  have e : (T.extract bs.length m).data.toList = (T.data.toList.take m).drop bs.length := by
    rw [ByteArray.data_extract, Array.toList_extract]
    simp [List.extract, List.drop_take]
  rw [e]
  by_cases h : bs.length ≤ m
  · have e2 : bs = (T.data.toList.take m).take bs.length := by
      rw [List.take_take, Nat.min_eq_left h, ← hr, List.take_left]
    have e3 : bs ++ (T.data.toList.take m).drop bs.length = T.data.toList.take m := by
      conv => lhs; arg 1; rw [e2]
      exact List.take_append_drop _ _
    rw [e3]
    exact List.take_prefix _ _
  · rw [List.drop_eq_nil_of_le (by simp; omega), List.append_nil]
    exact ⟨r, hr⟩

/-- What holds at the head of each round. -/
def PRel (w : World) (rb : Nat) (id : Id) (text : ByteArray) (len : Nat) (last i : Value) (wr : World) : Prop :=
  ∃ (k : Nat) (bs : List UInt8) (d : Bool) (g : Option Nat), k ≤ len ∧ i = .int .i64 k ∧ last = .int .i64 bs.length ∧ Rcv w.heap.size rb id text.size bs d g wr ∧ bs <+: text.data.toList ∧ (d = true → bs.length = text.size) ∧
    Kept (fun _ => False) w wr

set_option maxHeartbeats 4000000 in
theorem prefix_run {id : Id} {text : ByteArray} {A : Option Addr} {len cap : Nat} {E : Nat → Int × Id × Int × ByteArray} (w : World) (hC : Cmds A len E w) (ht : text.size ≤ 300) (hl : len ≤ 30) :
    Calls Try.prog 3 #[.agg (byteCells id.1).toArray, .string text, .slice A len cap] w fun e w' => e = .returned (.bool true) ∧ Kept (fun _ => False) w w' := by
  go_enter Try.func3, Try.ntmps3
  go_wp2_with (first
    | (go_at_call 6; refine (known_any _).mono ?_; rintro e w1 ⟨rfl, hk⟩; obtain ⟨il, ia, ih⟩ := idAt_of (hk.heap (heap_alloc_new w _) (fun f => f)))
    | (go_at_call 7; refine (newReceiver_ok w.heap.size id text.size _ (by omega) (by omega) (by have := hk.size; simp at this; omega)).mono ?_; rintro e w2 ⟨rfl, hR, hk2⟩))
  have HK := Lib.hid hk
  have HK2 := Lib.hid hk2
  have HR := Lib.hid hR
  have HC := Lib.hid hC
  clear hk hk2 hR hC
  go_loopw [9, 10] (fun last i wr => PRel w (w1.heap.size + 1) id text len last i wr) (fun _ i _ => len - (intOf i).toNat)
  case atStart =>
    refine ⟨0, [], false, none, Nat.zero_le _, rfl, rfl, HR.out, List.nil_prefix, fun h => (by cases h), ?_⟩
    exact (((Kept.refl _ w).alloc _).trans HK.out (fun _ _ f => f)).trans HK2.out (fun _ _ f => f)
  case round =>
    obtain ⟨k, bs, d, g, hk, rfl, rfl, hR, hp, hd, hK⟩ := hrel
    have hbl := hp.length_le
    have hts : text.data.toList.length = text.size := by simp
    by_cases hlt : k < len
    · have hC := HC.out.kept hK (fun _ _ f => f)
      obtain ⟨ad, rfl, hb⟩ := hC.at_ (by omega)
      obtain ⟨hag, hha⟩ := hC.agg k ad hlt rfl
      obtain ⟨hs1, hs2, hs3⟩ := hC.small k hlt
      generalize E k = q at hag hs1 hs2 hs3
      obtain ⟨v, cid, fr, t⟩ := q
      simp only at hag hs1 hs2 hs3
      have HR' := Lib.hid hR
      have HP := Lib.hid hp
      have HD := Lib.hid hd
      have HKK := Lib.hid hK
      clear hR hp hd hK hC
      by_cases hf0 : fr < 0
      · by_cases hm : (text.size : Int) ≤ t.size
        · go_wp2_with fail
          refine (own_any _ _ _ _ _).mono ?_
          rintro e w3 ⟨rfl, hk3⟩
          have H3 := Lib.hid hk3
          have hR3 := (HR'.out.alloc _).kept hk3 (fun f => f) (fun _ _ f => f)
          have hsz : w.heap.size ≤ w3.heap.size := by have := HKK.out.size; have := hk3.size; simp at this; omega
          clear hk3
          go_wp2_with fail
          refine (hear_any hR3 (by omega) (by omega) (by omega) (by first | omega | (simp [ByteArray.size_extract]; omega)) hsz).mono ?_
          rintro e w4 ⟨rfl, g', hR4, hk4, hg4⟩
          generalize hr : hearS id (text.size : Int) bs d v cid _ _ = r at hR4 ⊢
          obtain ⟨q1, q2, q3⟩ : bs.length ≤ r.1.1.length ∧ r.1.1 <+: text.data.toList ∧ (r.1.2 = true → r.1.1.length = text.data.toList.length) := by
            rw [← hr]
            refine hearS_prefix (by rw [hts]) HP.out (fun h => by rw [hts]; exact HD.out h) ?_
            intro h
            have h0 : bs.length = 0 := by omega
            have hx := extract_prefix (m := text.size) HP.out (by omega)
            rw [h0] at hx
            simp only [ByteArray.extract_zero_size] at hx
            exact hx
          clear hr
          obtain ⟨⟨bs', d'⟩, c'⟩ := r
          simp only at hR4 q1 q2 q3
          have q4 := q2.length_le
          have HR4 := Lib.hid hR4
          have HQ2 := Lib.hid q2
          have HQ3 := Lib.hid q3
          have HK4 := Lib.hid hk4
          clear hR3 hR4 q2 q3 hk4 hg4
          go_wp2_with (go_at_call 10; refine (from_any HR4.out).mono ?_; rintro e w5 ⟨rfl, rfl⟩)
          go_roundw
          case rel =>
            refine ⟨k + 1, bs', d', g', by omega, by go_num, rfl, HR4.out, HQ2.out, fun h => (HQ3.out h).trans hts, ?_⟩
            refine (((HKK.out.alloc _).trans H3.out (fun _ _ f => f)).trans HK4.out ?_)
            rintro i hi (rfl | hg)
            · have := HK.out.size; simp at this; omega
            · have := (HR'.out.glt i hg).1; omega
          case measure => simp [intOf]; omega
        · go_wp2_with fail
          refine (own_any _ _ _ _ _).mono ?_
          rintro e w3 ⟨rfl, hk3⟩
          have H3 := Lib.hid hk3
          have hR3 := (HR'.out.alloc _).kept hk3 (fun f => f) (fun _ _ f => f)
          have hsz : w.heap.size ≤ w3.heap.size := by have := HKK.out.size; have := hk3.size; simp at this; omega
          clear hk3
          go_wp2_with fail
          refine (hear_any hR3 (by omega) (by omega) (by omega) (by first | omega | (simp [ByteArray.size_extract]; omega)) hsz).mono ?_
          rintro e w4 ⟨rfl, g', hR4, hk4, hg4⟩
          generalize hr : hearS id (text.size : Int) bs d v cid _ _ = r at hR4 ⊢
          obtain ⟨q1, q2, q3⟩ : bs.length ≤ r.1.1.length ∧ r.1.1 <+: text.data.toList ∧ (r.1.2 = true → r.1.1.length = text.data.toList.length) := by
            rw [← hr]
            refine hearS_prefix (by rw [hts]) HP.out (fun h => by rw [hts]; exact HD.out h) ?_
            intro h
            have h0 : bs.length = 0 := by omega
            have hx := extract_prefix (m := t.size) HP.out (by omega)
            rw [h0] at hx
            exact hx
          clear hr
          obtain ⟨⟨bs', d'⟩, c'⟩ := r
          simp only at hR4 q1 q2 q3
          have q4 := q2.length_le
          have HR4 := Lib.hid hR4
          have HQ2 := Lib.hid q2
          have HQ3 := Lib.hid q3
          have HK4 := Lib.hid hk4
          clear hR3 hR4 q2 q3 hk4 hg4
          go_wp2_with (go_at_call 10; refine (from_any HR4.out).mono ?_; rintro e w5 ⟨rfl, rfl⟩)
          go_roundw
          case rel =>
            refine ⟨k + 1, bs', d', g', by omega, by go_num, rfl, HR4.out, HQ2.out, fun h => (HQ3.out h).trans hts, ?_⟩
            refine (((HKK.out.alloc _).trans H3.out (fun _ _ f => f)).trans HK4.out ?_)
            rintro i hi (rfl | hg)
            · have := HK.out.size; simp at this; omega
            · have := (HR'.out.glt i hg).1; omega
          case measure => simp [intOf]; omega
      · by_cases hf1 : text.size < fr
        · by_cases hm : (text.size : Int) ≤ t.size
          · go_wp2_with fail
            refine (own_any _ _ _ _ _).mono ?_
            rintro e w3 ⟨rfl, hk3⟩
            have H3 := Lib.hid hk3
            have hR3 := (HR'.out.alloc _).kept hk3 (fun f => f) (fun _ _ f => f)
            have hsz : w.heap.size ≤ w3.heap.size := by have := HKK.out.size; have := hk3.size; simp at this; omega
            clear hk3
            go_wp2_with fail
            refine (hear_any hR3 (by omega) (by omega) (by omega) (by first | omega | (simp [ByteArray.size_extract]; omega)) hsz).mono ?_
            rintro e w4 ⟨rfl, g', hR4, hk4, hg4⟩
            generalize hr : hearS id (text.size : Int) bs d v cid _ _ = r at hR4 ⊢
            obtain ⟨q1, q2, q3⟩ : bs.length ≤ r.1.1.length ∧ r.1.1 <+: text.data.toList ∧ (r.1.2 = true → r.1.1.length = text.data.toList.length) := by
              rw [← hr]
              refine hearS_prefix (by rw [hts]) HP.out (fun h => by rw [hts]; exact HD.out h) ?_
              intro h
              have h0 : bs.length = 0 := by omega
              have hx := extract_prefix (m := text.size) HP.out (by omega)
              rw [h0] at hx
              simp only [ByteArray.extract_zero_size] at hx
              exact hx
            clear hr
            obtain ⟨⟨bs', d'⟩, c'⟩ := r
            simp only at hR4 q1 q2 q3
            have q4 := q2.length_le
            have HR4 := Lib.hid hR4
            have HQ2 := Lib.hid q2
            have HQ3 := Lib.hid q3
            have HK4 := Lib.hid hk4
            clear hR3 hR4 q2 q3 hk4 hg4
            go_wp2_with (go_at_call 10; refine (from_any HR4.out).mono ?_; rintro e w5 ⟨rfl, rfl⟩)
            go_roundw
            case rel =>
              refine ⟨k + 1, bs', d', g', by omega, by go_num, rfl, HR4.out, HQ2.out, fun h => (HQ3.out h).trans hts, ?_⟩
              refine (((HKK.out.alloc _).trans H3.out (fun _ _ f => f)).trans HK4.out ?_)
              rintro i hi (rfl | hg)
              · have := HK.out.size; simp at this; omega
              · have := (HR'.out.glt i hg).1; omega
            case measure => simp [intOf]; omega
          · go_wp2_with fail
            refine (own_any _ _ _ _ _).mono ?_
            rintro e w3 ⟨rfl, hk3⟩
            have H3 := Lib.hid hk3
            have hR3 := (HR'.out.alloc _).kept hk3 (fun f => f) (fun _ _ f => f)
            have hsz : w.heap.size ≤ w3.heap.size := by have := HKK.out.size; have := hk3.size; simp at this; omega
            clear hk3
            go_wp2_with fail
            refine (hear_any hR3 (by omega) (by omega) (by omega) (by first | omega | (simp [ByteArray.size_extract]; omega)) hsz).mono ?_
            rintro e w4 ⟨rfl, g', hR4, hk4, hg4⟩
            generalize hr : hearS id (text.size : Int) bs d v cid _ _ = r at hR4 ⊢
            obtain ⟨q1, q2, q3⟩ : bs.length ≤ r.1.1.length ∧ r.1.1 <+: text.data.toList ∧ (r.1.2 = true → r.1.1.length = text.data.toList.length) := by
              rw [← hr]
              refine hearS_prefix (by rw [hts]) HP.out (fun h => by rw [hts]; exact HD.out h) ?_
              intro h
              have h0 : bs.length = 0 := by omega
              have hx := extract_prefix (m := t.size) HP.out (by omega)
              rw [h0] at hx
              exact hx
            clear hr
            obtain ⟨⟨bs', d'⟩, c'⟩ := r
            simp only at hR4 q1 q2 q3
            have q4 := q2.length_le
            have HR4 := Lib.hid hR4
            have HQ2 := Lib.hid q2
            have HQ3 := Lib.hid q3
            have HK4 := Lib.hid hk4
            clear hR3 hR4 q2 q3 hk4 hg4
            go_wp2_with (go_at_call 10; refine (from_any HR4.out).mono ?_; rintro e w5 ⟨rfl, rfl⟩)
            go_roundw
            case rel =>
              refine ⟨k + 1, bs', d', g', by omega, by go_num, rfl, HR4.out, HQ2.out, fun h => (HQ3.out h).trans hts, ?_⟩
              refine (((HKK.out.alloc _).trans H3.out (fun _ _ f => f)).trans HK4.out ?_)
              rintro i hi (rfl | hg)
              · have := HK.out.size; simp at this; omega
              · have := (HR'.out.glt i hg).1; omega
            case measure => simp [intOf]; omega
        · by_cases hm : (text.size : Int) ≤ fr + t.size
          · go_wp2_with fail
            refine (own_any _ _ _ _ _).mono ?_
            rintro e w3 ⟨rfl, hk3⟩
            have H3 := Lib.hid hk3
            have hR3 := (HR'.out.alloc _).kept hk3 (fun f => f) (fun _ _ f => f)
            have hsz : w.heap.size ≤ w3.heap.size := by have := HKK.out.size; have := hk3.size; simp at this; omega
            clear hk3
            go_wp2_with fail
            refine (hear_any hR3 (by omega) (by omega) (by omega) (by first | omega | (simp [ByteArray.size_extract]; omega)) hsz).mono ?_
            rintro e w4 ⟨rfl, g', hR4, hk4, hg4⟩
            generalize hr : hearS id (text.size : Int) bs d v cid _ _ = r at hR4 ⊢
            obtain ⟨q1, q2, q3⟩ : bs.length ≤ r.1.1.length ∧ r.1.1 <+: text.data.toList ∧ (r.1.2 = true → r.1.1.length = text.data.toList.length) := by
              rw [← hr]
              refine hearS_prefix (by rw [hts]) HP.out (fun h => by rw [hts]; exact HD.out h) ?_
              intro h
              subst h
              exact extract_prefix HP.out (Nat.le_refl _)
            clear hr
            obtain ⟨⟨bs', d'⟩, c'⟩ := r
            simp only at hR4 q1 q2 q3
            have q4 := q2.length_le
            have HR4 := Lib.hid hR4
            have HQ2 := Lib.hid q2
            have HQ3 := Lib.hid q3
            have HK4 := Lib.hid hk4
            clear hR3 hR4 q2 q3 hk4 hg4
            go_wp2_with (go_at_call 10; refine (from_any HR4.out).mono ?_; rintro e w5 ⟨rfl, rfl⟩)
            go_roundw
            case rel =>
              refine ⟨k + 1, bs', d', g', by omega, by go_num, rfl, HR4.out, HQ2.out, fun h => (HQ3.out h).trans hts, ?_⟩
              refine (((HKK.out.alloc _).trans H3.out (fun _ _ f => f)).trans HK4.out ?_)
              rintro i hi (rfl | hg)
              · have := HK.out.size; simp at this; omega
              · have := (HR'.out.glt i hg).1; omega
            case measure => simp [intOf]; omega
          · go_wp2_with fail
            refine (own_any _ _ _ _ _).mono ?_
            rintro e w3 ⟨rfl, hk3⟩
            have H3 := Lib.hid hk3
            have hR3 := (HR'.out.alloc _).kept hk3 (fun f => f) (fun _ _ f => f)
            have hsz : w.heap.size ≤ w3.heap.size := by have := HKK.out.size; have := hk3.size; simp at this; omega
            clear hk3
            go_wp2_with fail
            refine (hear_any hR3 (by omega) (by omega) (by omega) (by first | omega | (simp [ByteArray.size_extract]; omega)) hsz).mono ?_
            rintro e w4 ⟨rfl, g', hR4, hk4, hg4⟩
            generalize hr : hearS id (text.size : Int) bs d v cid _ _ = r at hR4 ⊢
            obtain ⟨q1, q2, q3⟩ : bs.length ≤ r.1.1.length ∧ r.1.1 <+: text.data.toList ∧ (r.1.2 = true → r.1.1.length = text.data.toList.length) := by
              rw [← hr]
              refine hearS_prefix (by rw [hts]) HP.out (fun h => by rw [hts]; exact HD.out h) ?_
              intro h
              subst h
              exact extract_prefix HP.out (by omega)
            clear hr
            obtain ⟨⟨bs', d'⟩, c'⟩ := r
            simp only at hR4 q1 q2 q3
            have q4 := q2.length_le
            have HR4 := Lib.hid hR4
            have HQ2 := Lib.hid q2
            have HQ3 := Lib.hid q3
            have HK4 := Lib.hid hk4
            clear hR3 hR4 q2 q3 hk4 hg4
            go_wp2_with (go_at_call 10; refine (from_any HR4.out).mono ?_; rintro e w5 ⟨rfl, rfl⟩)
            go_roundw
            case rel =>
              refine ⟨k + 1, bs', d', g', by omega, by go_num, rfl, HR4.out, HQ2.out, fun h => (HQ3.out h).trans hts, ?_⟩
              refine (((HKK.out.alloc _).trans H3.out (fun _ _ f => f)).trans HK4.out ?_)
              rintro i hi (rfl | hg)
              · have := HK.out.size; simp at this; omega
              · have := (HR'.out.glt i hg).1; omega
            case measure => simp [intOf]; omega
    · obtain rfl : k = len := by omega
      have HP := Lib.hid hp
      have HKK := Lib.hid hK
      clear hp hK
      cases d with
      | false =>
        go_wp2_with (go_at_call 11; refine (text_no hR).mono ?_; rintro e w5 ⟨rfl, rfl⟩)
        go_ret
        exact ⟨rfl, HKK.out⟩
      | true =>
        have e1 : (⟨bs.toArray⟩ : ByteArray) = text := by
          have := HP.out.eq_of_length (by rw [hts]; exact hd rfl)
          rw [this]
        go_wp2_with fail
        refine (text_yes hR).mono ?_
        rintro e w5 ⟨rfl, hR5, hk5⟩
        rw [e1]
        have HK5 := Lib.hid hk5
        have HRR := Lib.hid hR
        clear hd e1 hk5 hR5 hR
        go_wp2
        go_ret
        exact ⟨rfl, HKK.out.trans HK5.out (fun i hi hg => by have := (HRR.out.glt i hg).1; omega)⟩
end Go.Proofs.Ytoeapcfnbomlgaa
