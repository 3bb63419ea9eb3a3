/- The walk of bulletinlaw32.TransferClone over this translation.
   Conditions: none beyond the form's own reach of each argument. -/
import Derived.Test.YtoeapcfnbomlgaaTrE
import Derived.Test.YtoeapcfnbomlgaaTrP
namespace Go.Proofs.Ytoeapcfnbomlgaa
open Go.RowKit Go.Lib

attribute [local go_sem ↓] S_ld_id S_ld_cmd S_ld_rcmd S_ld_R S_st_cmd S_st_rcmd S_st_R S_st_tk S_al_cmd S_al_rcmd S_al_R S_eq_id S_ne_id S_bd_recv S_bd_send S_bd_cmd S_bd_rcmd S_bd_R S_bd_id
attribute [local go_sem] runS_ld_id runS_ld_cmd runS_ld_rcmd runS_ld_R runS_st_cmd runS_st_rcmd runS_st_R runS_st_tk runS_al_cmd runS_al_rcmd runS_al_R runS_eq_id runS_ne_id guard_id runS_bd_recv2 runS_bd_recv3 runS_bd_send runS_bd_cmd4 runS_bd_cmd2 runS_bd_cmd0 runS_bd_rcmd runS_bd_R runS_bd_one
attribute [local go_sem] isPtr_some addrOf_some aggAt_drew aggAt_drewN hasAt_drew hasAt_drewN aggAt_alloc_old hasAt_alloc_old aggAt_setCell hasAt_setCell aggAt_set_apart hasAt_set_apart aggAt_new hasAt_new canPut_new canPut_drew canPut_drewN canPut_setCell putAgg_new cells_agg isAggOf_mk
  isInt_mk isStr_mk isBool_mk intOf'_mk strOf_mk boolOf_mk isBytes_true bytesOf_mk toId_val kL_whole rL_whole cL_whole take_byteCells byteCells_len' byteCells_all
  vL_length cL_length kL_length rL_length sL_length cL_0 cL_35 cL_38 cL_id cL_all kL_0 kL_33 kL_34 kL_id kL_all rL_32 rL_33 rL_34 rL_id rL_all rL_set33 rL_set34 kL_set33 kL_set34 cL_g0 cL_g35 cL_g38 kL_g0 kL_g33 kL_g34 rL_g32 rL_g33 rL_g34


set_option maxRecDepth 10000 in
set_option maxHeartbeats 1000000 in
theorem clone_known {id : Id} {size : Int} {A1 A2 : Option Addr} {len1 cap1 len2 cap2 : Nat} (w : World) (h : 30 < len1 ∨ (len1 ≤ 30 ∧ 30 < len2) ∨ (len1 ≤ 30 ∧ len2 ≤ 30 ∧ size < 0) ∨ (len1 ≤ 30 ∧ len2 ≤ 30 ∧ 0 ≤ size ∧ 65536 < size)) :
    Calls Try.prog 4 #[.agg (byteCells id.1).toArray, .int .i64 size, .slice A1 len1 cap1, .slice A2 len2 cap2] w fun e w' => e = .returned (.bool true) ∧ Kept (fun _ => False) w w' := by
  rcases h with h | ⟨h0, h⟩ | ⟨h0, h1, h⟩ | ⟨h0, h1, h2, h⟩
  all_goals
    go_enter Try.func4, Try.ntmps4
    go_wp2_with fail
    refine (known_any _).mono ?_
    rintro e w1 ⟨rfl, hk⟩
    go_wp2_with fail
    refine (known_any _).mono ?_
    rintro e w2 ⟨rfl, hk2⟩
    go_wp2
    go_ret
    exact ⟨rfl, ((Kept.refl _ w).alloc _).trans hk (fun _ _ f => f) |>.trans hk2 (fun _ _ f => f)⟩

/-- A receiver and the document's receiver beside it: the same bytes, the same completion. -/
structure Pair (B rb vb : Nat) (id : Id) (n : Int) (bs : List UInt8) (d : Bool) (g : Option Nat) (w : World) : Prop where
  rcv : Rcv B rb id n bs d g w
  doc : w.heap[vb]? = some (.cells (rL id n ⟨bs.toArray⟩ d).toArray 41 (0, 0))
  short : bs.length ≤ n
  ne : vb ≠ rb
  gne : ∀ k, g = some k → k ≠ vb
theorem Pair.kept {F : Nat → Prop} {B rb vb : Nat} {id : Id} {n : Int} {bs : List UInt8} {d : Bool} {g : Option Nat} {w w' : World} (h : Pair B rb vb id n bs d g w) (hk : Kept F w w') (h1 : ¬ F rb) (h2 : ¬ F vb) (h3 : ∀ k, g = some k → ¬ F k) : Pair B rb vb id n bs d g w' :=
  ⟨h.rcv.kept hk h1 h3, hk.heap h.doc h2, h.short, h.ne, h.gne⟩

theorem kcell34 {wr : World} {a : Addr} {v : Int} {cid : Id} {fr : Int} {t : ByteArray} (h1 : aggAt wr a 35 = kL v cid fr t) (h2 : hasAt wr a 35) : wr.cell? ⟨a.block, a.off + 34, none⟩ = some (.string t) := by
  have e : a.add 34 = ⟨a.block, a.off + 34, none⟩ := rfl
  rw [← e]
  obtain ⟨u, hu⟩ := Option.isSome_iff_exists.1 (h2 34 (by decide))
  have h3 : (aggAt wr a 35)[34]? = some (.string t) := by rw [h1, kL_34]
  unfold aggAt at h3
  rw [List.getElem?_map, List.getElem?_range (by decide), Option.map_some, hu] at h3
  rw [hu]
  exact h3

theorem doc_facts {w : World} {vb : Nat} {id : Id} {n : Int} {t : ByteArray} {d : Bool} (h : w.heap[vb]? = some (.cells (rL id n t d).toArray 41 (0, 0))) :
    aggAt w ⟨vb, 0, none⟩ 35 = rL id n t d ∧ hasAt w ⟨vb, 0, none⟩ 35 ∧ canPut w ⟨vb, 0, none⟩ 35 := by
  refine ⟨(aggAt_of h 0 35 (by rw [List.size_toArray, rL_length]; decide)).trans (rL_whole id n t d), hasAt_of h 0 35 (by rw [List.size_toArray, rL_length]; decide), rfl, fun j hj => ⟨?_, Lib.frozen_of_heap h _⟩⟩
  rw [Lib.cell_of_heap h, Array.getElem?_eq_getElem (by rw [List.size_toArray, rL_length]; show 0 + j < 35; omega)]
  rfl

theorem doc_put {w : World} {vb : Nat} {id : Id} {n : Int} {t : ByteArray} {d : Bool} (h : w.heap[vb]? = some (.cells (rL id n t d).toArray 41 (0, 0))) (id' : Id) (n' : Int) (t' : ByteArray) (d' : Bool) :
    (putAgg w ⟨vb, 0, none⟩ (rL id' n' t' d')).heap[vb]? = some (.cells (rL id' n' t' d').toArray 41 (0, 0)) := by
  unfold putAgg
  show (w.setCells vb 0 _).heap[vb]? = _
  rw [setCells_row _ 0 w vb _ _ h (by rw [List.size_toArray, rL_length, rL_length]; omega), setRow_heap _ _ _ _ _ _ h]
  rw [List.take_zero, List.nil_append, List.drop_eq_nil_of_le (by simp [rL_length]), List.append_nil]

theorem hearS_short (id : Id) (n : Int) (bs : List UInt8) (d : Bool) (v : Int) (cid : Id) (fr : Int) (t : ByteArray) (h : bs.length ≤ n) : (hearS id n bs d v cid fr t).1.1.length ≤ n := by
  unfold hearS
  repeat' split
  all_goals first
    | exact h
    | (rename_i hx; show ((bs ++ t.data.toList).length : Int) ≤ n; simp at hx ⊢; omega)

theorem equal_same {B b1 b2 : Nat} {id : Id} {n : Int} {bs : List UInt8} {d : Bool} {g1 g2 : Option Nat} {w : World} (h1 : Rcv B b1 id n bs d g1 w) (h2 : Rcv B b2 id n bs d g2 w) (hs : Sep b1 g1 b2 g2) :
    Calls Try.prog 14 #[.pointer (some ⟨b1, 0, none⟩), .pointer (some ⟨b2, 0, none⟩)] w fun e w' => e = .returned (.bool true) ∧ Rcv B b1 id n bs d g1 w' ∧ Rcv B b2 id n bs d g2 w' ∧ Kept (fun k => g1 = some k ∨ g2 = some k) w w' := by
  have := equal_any h1 h2 hs
  rwa [beq_self_eq_true, beq_self_eq_true, beq_self_eq_true] at this

/-- The three receivers and the two documents of the last statement. -/
structure Xi (w : World) (rb vb cb vc xb : Nat) (id : Id) (n m : Int) (bs bs2 : List UInt8) (d d2 : Bool) (g g2 : Option Nat) (w' : World) : Prop where
  r : Rcv (w.heap.size + 1) rb id n bs d g w'
  c : Rcv (w.heap.size + 1) cb id n bs2 d2 g2 w'
  x : Rcv (w.heap.size + 1) xb id m [] false none w'
  dr : w'.heap[vb]? = some (.cells (rL id n ⟨bs.toArray⟩ d).toArray 41 (0, 0))
  dc : w'.heap[vc]? = some (.cells (rL id n ⟨bs2.toArray⟩ d2).toArray 41 (0, 0))
  kept : Kept (fun _ => False) w w'
structure XiSep (rb vb cb vc xb : Nat) (g g2 : Option Nat) : Prop where
  rc : Sep rb g cb g2
  xr : ¬ g = some xb
  xc : ¬ g2 = some xb
  v1 : ¬ g = some vb
  v2 : ¬ g2 = some vb
  v3 : ¬ g = some vc
  v4 : ¬ g2 = some vc

theorem Xi.step {w : World} {rb vb cb vc xb : Nat} {id : Id} {n m : Int} {bs bs2 : List UInt8} {d d2 : Bool} {g g2 : Option Nat} {w' w'' : World} (S : XiSep rb vb cb vc xb g g2) (h : Xi w rb vb cb vc xb id n m bs bs2 d d2 g g2 w')
    (hr : Rcv (w.heap.size + 1) rb id n bs d g w'') (hc : Rcv (w.heap.size + 1) cb id n bs2 d2 g2 w'') (hk : Kept (fun k => g = some k ∨ g2 = some k) w' w'') : Xi w rb vb cb vc xb id n m bs bs2 d d2 g g2 w'' :=
  ⟨hr, hc, h.x.kept hk (fun f => f.elim S.xr S.xc) (fun _ f => by cases f), hk.heap h.dr (fun f => f.elim S.v1 S.v2), hk.heap h.dc (fun f => f.elim S.v3 S.v4),
    h.kept.trans hk (fun i hi f => by
      rcases f with f | f
      · have := (h.r.glt i f).1; omega
      · have := (h.c.glt i f).1; omega)⟩

theorem exit_family {w : World} {rb vb cb vc xb : Nat} {id : Id} {n m : Int} {bs bs2 : List UInt8} {d d2 E : Bool} {g g2 : Option Nat} {w' : World} (S : XiSep rb vb cb vc xb g g2) (h : Xi w rb vb cb vc xb id n m bs bs2 d d2 g g2 w')
    (hE1 : (n == n && (d2 == d && bs2 == bs)) = E) (hE2 : (n == n && (d == d2 && bs == bs2)) = E) (hne : (n == m) = false) :
    ∃ (ι : Type) (_ : Nonempty ι) (W : ι → World) (i0 : ι), w' = W i0 ∧ (∀ i, aggAt (W i) ⟨vb, 0, none⟩ 35 = rL id n ⟨bs.toArray⟩ d) ∧ (∀ i, hasAt (W i) ⟨vb, 0, none⟩ 35) ∧
      (∀ i, aggAt (W i) ⟨vc, 0, none⟩ 35 = rL id n ⟨bs2.toArray⟩ d2) ∧ (∀ i, hasAt (W i) ⟨vc, 0, none⟩ 35) ∧
      Hid (∀ i, Calls Try.prog 15 #[.pointer (some ⟨rb, 0, none⟩), .agg (rL id n ⟨bs.toArray⟩ d).toArray] (W i) fun e w'' => e = .returned (.bool true) ∧ ∃ j, w'' = W j) ∧
      Hid (∀ i, Calls Try.prog 15 #[.pointer (some ⟨cb, 0, none⟩), .agg (rL id n ⟨bs2.toArray⟩ d2).toArray] (W i) fun e w'' => e = .returned (.bool true) ∧ ∃ j, w'' = W j) ∧
      Hid (∀ i, Calls Try.prog 14 #[.pointer (some ⟨cb, 0, none⟩), .pointer (some ⟨rb, 0, none⟩)] (W i) fun e w'' => e = .returned (.bool E) ∧ ∃ j, w'' = W j) ∧
      Hid (∀ i, Calls Try.prog 14 #[.pointer (some ⟨rb, 0, none⟩), .pointer (some ⟨cb, 0, none⟩)] (W i) fun e w'' => e = .returned (.bool E) ∧ ∃ j, w'' = W j) ∧
      Hid (∀ i, Calls Try.prog 14 #[.pointer (some ⟨rb, 0, none⟩), .pointer (some ⟨xb, 0, none⟩)] (W i) fun e w'' => e = .returned (.bool false) ∧ ∃ j, w'' = W j) ∧
      Hid (∀ i, Kept (fun _ => False) w (W i)) := by
  refine ⟨{ y : World // Xi w rb vb cb vc xb id n m bs bs2 d d2 g g2 y }, ⟨⟨_, h⟩⟩, fun y => y.1, ⟨_, h⟩, rfl, fun i => (doc_facts i.2.dr).1, fun i => (doc_facts i.2.dr).2.1, fun i => (doc_facts i.2.dc).1, fun i => (doc_facts i.2.dc).2.1,
    Lib.hid fun i => ?_, Lib.hid fun i => ?_, Lib.hid fun i => ?_, Lib.hid fun i => ?_, Lib.hid fun i => ?_, Lib.hid fun i => i.2.kept⟩
  · exact (same_any i.2.r).mono fun e y ⟨he, hR, hk⟩ => ⟨he, ⟨y, i.2.step S hR (i.2.c.kept hk S.rc.b (fun k a b => S.rc.c k b a)) (hk.mono fun _ _ f => .inl f)⟩, rfl⟩
  · exact (same_any i.2.c).mono fun e y ⟨he, hR, hk⟩ => ⟨he, ⟨y, i.2.step S (i.2.r.kept hk S.rc.a (fun k a b => S.rc.c k a b)) hR (hk.mono fun _ _ f => .inr f)⟩, rfl⟩
  · exact (equal_any i.2.c i.2.r S.rc.symm).mono fun e y ⟨he, hC, hR, hk⟩ => ⟨by rw [he, hE1], ⟨y, i.2.step S hR hC (hk.mono fun _ _ f => f.symm)⟩, rfl⟩
  · exact (equal_any i.2.r i.2.c S.rc).mono fun e y ⟨he, hR, hC, hk⟩ => ⟨by rw [he, hE2], ⟨y, i.2.step S hR hC hk⟩, rfl⟩
  · refine (equal_any i.2.r i.2.x ⟨(fun f => by cases f), S.xr, (fun _ _ f => by cases f)⟩).mono fun e y ⟨he, hR, hX, hk⟩ => ⟨by rw [he, hne, Bool.false_and], ⟨y, ?_⟩, rfl⟩
    have hk' : Kept (fun k => g = some k) i.1 y := hk.mono fun _ _ f => f.elim (fun f => f) (fun f => by cases f)
    exact i.2.step S hR (i.2.c.kept hk' S.rc.b (fun k a b => S.rc.c k b a)) (hk'.mono fun _ _ f => .inl f)

/-- What holds at the head of a round of the first loop. -/
def CRel1 (w : World) (rb vb : Nat) (id : Id) (n : Int) (len : Nat) (i : Value) (wr : World) : Prop :=
  ∃ (k : Nat) (bs : List UInt8) (d : Bool) (g : Option Nat), k ≤ len ∧ i = .int .i64 k ∧ Pair (w.heap.size + 1) rb vb id n bs d g wr ∧ Kept (fun _ => False) w wr ∧ wr.heap[w.heap.size]? = some (.cells (byteCells id.1).toArray 23 (0, 0))

/-- What holds at the head of a round of the second loop. -/
def CRel2 (w : World) (rb vb cb vc : Nat) (id : Id) (n : Int) (len : Nat) (bs0 : List UInt8) (d0 : Bool) (g0 : Option Nat) (i : Value) (wx : World) : Prop :=
  ∃ (k : Nat) (bs : List UInt8) (d : Bool) (g : Option Nat), k ≤ len ∧ i = .int .i64 k ∧ Pair (w.heap.size + 1) cb vc id n bs d g wx ∧ Pair (w.heap.size + 1) rb vb id n bs0 d0 g0 wx ∧ Kept (fun _ => False) w wx ∧ wx.heap[w.heap.size]? = some (.cells (byteCells id.1).toArray 23 (0, 0)) ∧ ∀ j, g = some j → cb ≤ j

set_option maxRecDepth 10000 in
set_option maxHeartbeats 4000000 in
theorem clone_run {id : Id} {size : Int} {A1 A2 : Option Addr} {len1 cap1 len2 cap2 : Nat} {E1 E2 : Nat → Int × Id × Int × ByteArray} (w : World) (hC1 : Cmds A1 len1 E1 w) (hC2 : Cmds A2 len2 E2 w) (hl1 : len1 ≤ 30) (hl2 : len2 ≤ 30) (h0 : 0 ≤ size) (h1 : size ≤ 65536) :
    Calls Try.prog 4 #[.agg (byteCells id.1).toArray, .int .i64 size, .slice A1 len1 cap1, .slice A2 len2 cap2] w fun e w' => e = .returned (.bool true) ∧ Kept (fun _ => False) w w' := by
  go_enter Try.func4, Try.ntmps4
  go_wp2_with (first
    | (go_at_call 6; refine (known_any _).mono ?_; rintro e w1 ⟨rfl, hk⟩; obtain ⟨il, ia, ih⟩ := idAt_of (hk.heap (heap_alloc_new w _) (fun f => f)))
    | (go_at_call 7; refine (newReceiver_ok (w.heap.size + 1) id size _ h0 h1 (by have := hk.size; simp at this; omega)).mono ?_; rintro e w2 ⟨rfl, hR, hk2⟩; have hI2 := hk2.heap (hk.heap (heap_alloc_new w _) (fun f => f)) (fun f => f); obtain ⟨il2, ia2, ih2⟩ := idAt_of hI2))
  have HK := Lib.hid hk
  have HK2 := Lib.hid hk2
  have HR := Lib.hid hR
  have HC1 := Lib.hid hC1
  have HC2 := Lib.hid hC2
  clear hk hk2 hR hC1 hC2
  have HI := Lib.hid hI2
  clear hI2
  go_loopw [12] (fun i wr => CRel1 w (w1.heap.size + 1) w2.heap.size id size len1 i wr) (fun i _ => len1 - (intOf i).toNat)
  case atStart =>
    have hlt := HR.out.facts.lt
    refine ⟨0, [], false, none, Nat.zero_le _, rfl, ⟨HR.out.alloc _, heap_alloc_new _ _, by simpa using h0, by omega, fun _ h => (by cases h)⟩, ?_, (Below.heap_alloc _ _ _ il2).trans HI.out⟩
    exact ((((Kept.refl _ w).alloc _).trans HK.out (fun _ _ f => f)).trans HK2.out (fun _ _ f => f)).alloc _
  case round =>
    obtain ⟨k, bs, d, g, hk, rfl, hP, hK, hJ⟩ := hrel
    have HJ := Lib.hid hJ
    clear hJ
    have hbl := hP.short
    by_cases hlt : k < len1
    · have hC := HC1.out.kept hK (fun _ _ f => f)
      obtain ⟨ad, rfl, hb0⟩ := HC1.out.at_ (by omega)
      have hb : ad.block < wr.heap.size := Nat.lt_of_lt_of_le hb0 hK.size
      obtain ⟨hag, hha⟩ := hC.agg k ad hlt rfl
      obtain ⟨hs1, hs2, hs3⟩ := hC.small k hlt
      generalize E1 k = q at hag hs1 hs2 hs3
      obtain ⟨v, cid, fr, t⟩ := q
      simp only at hag hs1 hs2 hs3
      have c34 := kcell34 hag hha
      have HP := Lib.hid hP
      have HKK := Lib.hid hK
      clear hP hK hC
      by_cases hm : 300 < t.size
      · go_wp2_with fail
        go_ret
        exact ⟨rfl, HKK.out⟩
      · have dlt : w2.heap.size < wr.heap.size := (Array.getElem?_eq_some_iff.1 HP.out.doc).1
        have hsz : w.heap.size + 1 ≤ wr.heap.size := (Array.getElem?_eq_some_iff.1 HJ.out).1
        obtain ⟨dag, dha, dput⟩ := doc_facts HP.out.doc
        go_wp2_with fail
        go_region_law (go_simp; go_at_call 12; refine (rhear_any id size bs d v cid fr t _ h1 hbl (by omega)).mono ?_; rintro e w3 ⟨rfl, hk3⟩; obtain ⟨eag, eha, eput⟩ := doc_facts (hk3.heap (w := wr.drew) HP.out.doc (fun f => f)))
        all_goals
          have hdoc := doc_put (hk3.heap (w := wr.drew) HP.out.doc (fun f => f)) id size ⟨(hearS id size bs d v cid fr t).1.1.toArray⟩ (hearS id size bs d v cid fr t).1.2
          have hkn : Kept (fun k => k = w2.heap.size) wr (putAgg w3 ⟨w2.heap.size, 0, none⟩ (rL id size ⟨(hearS id size bs d v cid fr t).1.1.toArray⟩ (hearS id size bs d v cid fr t).1.2)) :=
            Kept.putAgg (F := fun k => k = w2.heap.size) (a := ⟨w2.heap.size, 0, none⟩) ((((Kept.refl (fun _ => False) wr).drewN 1).trans hk3 (fun _ _ f => f)).mono (fun _ _ f => f.elim)) (fun _ => rfl) _
          clear hk3 eag eha eput dag dha dput c34
          generalize putAgg w3 _ _ = wn at hdoc hkn ⊢
          have hbw : (ad.add (k * 35)).block < w.heap.size := by rw [add_block]; exact hb0
          have hw2 : w.heap.size ≤ w2.heap.size := by have a1 := HK.out.size; have a2 := HK2.out.size; rw [World.size_alloc] at a1; omega
          have eb : wn.heap[(ad.add (k * 35)).block]? = wr.heap[(ad.add (k * 35)).block]? := hkn.block _ (by omega) (by omega)
          have hag' := (aggAt_block eb 35).trans hag
          have hha' : hasAt wn (ad.add (k * 35)) 35 := by rw [hasAt_block eb]; exact hha
          have hRn := HP.out.rcv.kept hkn (fun f => HP.out.ne f.symm) (fun j hj f => HP.out.gne j hj f)
          have hszn : w.heap.size + 1 ≤ wn.heap.size := Nat.le_trans hsz hkn.size
          have HDOC := Lib.hid hdoc
          have HKN := Lib.hid hkn
          have HRN := Lib.hid hRn
          clear hdoc hkn hRn eb
          go_wp2_with fail
          refine (own_any _ _ _ _ _).mono ?_
          rintro e w4 ⟨rfl, hk4⟩
          have H4 := Lib.hid hk4
          have hR4 := HRN.out.kept hk4 (fun f => f) (fun _ _ f => f)
          have hsz4 : w.heap.size + 1 ≤ w4.heap.size := Nat.le_trans hszn hk4.size
          have dl4 : w2.heap.size < w4.heap.size := Nat.lt_of_lt_of_le dlt (Nat.le_trans HKN.out.size hk4.size)
          clear hk4
          go_wp2_with fail
          refine (hear_any hR4 h0 h1 hbl (by omega) hsz4).mono ?_
          rintro e w5 ⟨rfl, g', hR5, hk5, hg5⟩
          have hsh := hearS_short id size bs d v cid fr t hbl
          generalize hearS id size bs d v cid fr t = r at hR5 hsh HDOC ⊢
          obtain ⟨⟨bs', d'⟩, c'⟩ := r
          have HR5 : Hid (Rcv (w.heap.size + 1) (w1.heap.size + 1) id size bs' d' g' w5) := Lib.hid hR5
          have HD5 : Hid (w4.heap[w2.heap.size]? = some (.cells (rL id size ⟨bs'.toArray⟩ d').toArray 41 (0, 0))) := Lib.hid (H4.out.heap HDOC.out (fun f => f))
          have hsh' : bs'.length ≤ size := hsh
          have HK5 := Lib.hid hk5
          have HG5 := Lib.hid hg5
          clear hR4 hR5 hk5 hg5 hsh HDOC hag hag' hha hha'
          (try go_wp2)
          go_roundw
          case rel =>
            refine ⟨k + 1, bs', d', g', by omega, by go_num, ⟨HR5.out, HK5.out.heap HD5.out ?_, hsh', HP.out.ne, ?_⟩, ?_, ?_⟩
            · rintro (f | f)
              · exact HP.out.ne f
              · exact HP.out.gne _ f rfl
            · intro j hj
              rcases HG5.out with f | f
              · rw [f] at hj; exact HP.out.gne j hj
              · have := f j hj; omega
            · refine ((HKK.out.trans HKN.out ?_).trans H4.out (fun _ _ f => f)).trans HK5.out ?_
              · intro i hi f
                have f' : i = w2.heap.size := f
                omega
              · rintro i hi (f | f)
                · have := HK.out.size; rw [World.size_alloc] at this; omega
                · have := (HP.out.rcv.glt i f).1; omega
            · refine HK5.out.heap (H4.out.heap (HKN.out.heap HJ.out ?_) (fun f => f)) ?_
              · intro f
                have f' : w.heap.size = w2.heap.size := f
                have a1 := HK.out.size
                have a2 := HK2.out.size
                rw [World.size_alloc] at a1
                omega
              · rintro (f | f)
                · have a1 := HK.out.size
                  rw [World.size_alloc] at a1
                  omega
                · have := (HP.out.rcv.glt _ f).1; omega
          case measure => simp [intOf]; omega
    · obtain rfl : k = len1 := by omega
      obtain ⟨wq, rfl⟩ : ∃ x, x = wr := ⟨_, rfl⟩
      have HP := Lib.hid hP
      have HKK := Lib.hid hK
      clear hP hK
      go_wp2_with fail
      refine (clone_any HP.out.rcv (by omega) (Array.getElem?_eq_some_iff.1 HJ.out).1).mono ?_
      rintro e w3 ⟨rfl, hR3, g3, hC3, hk3, hg3⟩
      have hd3 := hk3.heap HP.out.doc (fun f => HP.out.gne _ f rfl)
      obtain ⟨dag, dha, _⟩ := doc_facts hd3
      have dlt3 : w2.heap.size < w3.heap.size := (Array.getElem?_eq_some_iff.1 hd3).1
      have rlt := HP.out.rcv.facts.lt
      have hsep : Sep (w1.heap.size + 1) g wq.heap.size g3 := ⟨fun f => by have := hg3 _ f; omega, fun f => by have := (HP.out.rcv.glt _ f).2; omega, fun j f f' => by have a := (HP.out.rcv.glt _ f).2; have b := hg3 _ f'; omega⟩
      have HD3 := Lib.hid hd3
      have HK3 := Lib.hid hk3
      have HR3 := Lib.hid hR3
      have HC3 := Lib.hid hC3
      clear hd3 hk3 hR3 hC3
      go_wp2_with fail
      refine (equal_same (HC3.out.alloc _) (HR3.out.alloc _) hsep.symm).mono ?_
      rintro e w4 ⟨rfl, hC4, hR4, hk4⟩
      have HK4 := Lib.hid hk4
      have HR4 := Lib.hid hR4
      have HC4 := Lib.hid hC4
      clear hk4 hR4 hC4
      go_wp2_with fail
      refine (equal_same HR4.out HC4.out hsep).mono ?_
      rintro e w5 ⟨rfl, hR5, hC5, hk5⟩
      have HK5 := Lib.hid hk5
      have HR5 := Lib.hid hR5
      have HC5 := Lib.hid hC5
      clear hk5 hR5 hC5
      go_wp2_with fail
      have hd5 : w5.heap[w2.heap.size]? = some (.cells (rL id size ⟨bs.toArray⟩ d).toArray 41 (0, 0)) := by
        refine HK5.out.heap (HK4.out.heap ((Below.heap_alloc w3 _ _ dlt3).trans HD3.out) ?_) ?_
        · rintro (f | f)
          · have := hg3 _ f; have := (Array.getElem?_eq_some_iff.1 HP.out.doc).1; omega
          · exact HP.out.gne _ f rfl
        · rintro (f | f)
          · exact HP.out.gne _ f rfl
          · have := hg3 _ f; have := (Array.getElem?_eq_some_iff.1 HP.out.doc).1; omega
      have he5 : w5.heap[w3.heap.size]? = some (.cells (rL id size ⟨bs.toArray⟩ d).toArray 41 (0, 0)) := by
        refine HK5.out.heap (HK4.out.heap (heap_alloc_new w3 _) ?_) ?_
        · rintro (f | f)
          · have := (HC3.out.glt _ f).2; omega
          · have := (HR3.out.glt _ f).2; omega
        · rintro (f | f)
          · have := (HR3.out.glt _ f).2; omega
          · have := (HC3.out.glt _ f).2; omega
      have hs3 : wq.heap.size < w3.heap.size := HC3.out.facts.lt
      have hK5 : Kept (fun _ => False) w w5 := by
        refine (((HKK.out.trans HK3.out ?_).alloc _).trans HK4.out ?_).trans HK5.out ?_
        · intro j hj f
          have := (HP.out.rcv.glt j f).1; omega
        · rintro j hj (f | f)
          · have := (HC3.out.glt j f).1; omega
          · have := (HP.out.rcv.glt j f).1; omega
        · rintro j hj (f | f)
          · have := (HP.out.rcv.glt j f).1; omega
          · have := (HC3.out.glt j f).1; omega
      have hJ5 : w5.heap[w.heap.size]? = some (.cells (byteCells id.1).toArray 23 (0, 0)) := by
        have hj0 := (Array.getElem?_eq_some_iff.1 HJ.out).1
        refine HK5.out.heap (HK4.out.heap ((Below.heap_alloc w3 _ _ (by omega)).trans (HK3.out.heap HJ.out ?_)) ?_) ?_
        · intro f
          have := (HP.out.rcv.glt _ f).1; omega
        · rintro (f | f)
          · have := (HC3.out.glt _ f).1; omega
          · have := (HP.out.rcv.glt _ f).1; omega
        · rintro (f | f)
          · have := (HP.out.rcv.glt _ f).1; omega
          · have := (HC3.out.glt _ f).1; omega
      have HJ5 := Lib.hid hJ5
      have hj0 := (Array.getElem?_eq_some_iff.1 HJ.out).1
      clear hJ5
      have HX := Lib.hid hK5
      have HD5 := Lib.hid hd5
      have HE5 := Lib.hid he5
      clear hK5 hd5 he5
      go_loopw [15] (fun i wz => CRel2 w (w1.heap.size + 1) w2.heap.size wq.heap.size w3.heap.size id size len2 bs d g i wz) (fun i _ => len2 - (intOf i).toNat)
      case atStart =>
        refine ⟨0, bs, d, g3, Nat.zero_le _, rfl, ⟨HC5.out, HE5.out, hbl, by omega, fun j hj => ?_⟩, ⟨HR5.out, HD5.out, hbl, HP.out.ne, HP.out.gne⟩, HX.out, HJ5.out, hg3⟩
        have := (HC3.out.glt j hj).2; omega
      case round =>
        obtain ⟨k2, bs2, d2, g2, hk2, rfl, hP2, hQ2, hKx, hJ2, hg2⟩ := hrel
        have HJ2 := Lib.hid hJ2
        clear hJ2
        have hbl2 := hP2.short
        have vlt : w2.heap.size < wq.heap.size := (Array.getElem?_eq_some_iff.1 HP.out.doc).1
        by_cases hlt2 : k2 < len2
        · have hC := HC2.out.kept hKx (fun _ _ f => f)
          obtain ⟨ad2, rfl, hb20⟩ := HC2.out.at_ (by omega)
          have hb2 : ad2.block < wr.heap.size := Nat.lt_of_lt_of_le hb20 hKx.size
          obtain ⟨hag, hha⟩ := hC.agg k2 ad2 hlt2 rfl
          obtain ⟨hs1, hs2, hs3'⟩ := hC.small k2 hlt2
          generalize E2 k2 = q at hag hs1 hs2 hs3'
          obtain ⟨v, cid, fr, t⟩ := q
          simp only at hag hs1 hs2 hs3'
          have c34 := kcell34 hag hha
          have HP2 := Lib.hid hP2
          have HQ2 := Lib.hid hQ2
          have HKX := Lib.hid hKx
          have HG2 := Lib.hid hg2
          clear hP2 hQ2 hKx hC hg2
          by_cases hm : 300 < t.size
          · go_wp2_with fail
            go_ret
            exact ⟨rfl, HKX.out⟩
          · have dlt : w3.heap.size < wr.heap.size := (Array.getElem?_eq_some_iff.1 HP2.out.doc).1
            have hsz : w.heap.size + 1 ≤ wr.heap.size := (Array.getElem?_eq_some_iff.1 HJ2.out).1
            obtain ⟨dag2, dha2, dput2⟩ := doc_facts HP2.out.doc
            go_wp2_with fail
            go_region_law (go_simp; go_at_call 12; refine (rhear_any id size bs2 d2 v cid fr t _ h1 hbl2 (by omega)).mono ?_; rintro e y3 ⟨rfl, hk3⟩; obtain ⟨eag, eha, eput⟩ := doc_facts (hk3.heap (w := wr.drew) HP2.out.doc (fun f => f)))
            all_goals
              have hdoc := doc_put (hk3.heap (w := wr.drew) HP2.out.doc (fun f => f)) id size ⟨(hearS id size bs2 d2 v cid fr t).1.1.toArray⟩ (hearS id size bs2 d2 v cid fr t).1.2
              have hkn : Kept (fun k => k = w3.heap.size) wr (putAgg y3 ⟨w3.heap.size, 0, none⟩ (rL id size ⟨(hearS id size bs2 d2 v cid fr t).1.1.toArray⟩ (hearS id size bs2 d2 v cid fr t).1.2)) :=
                Kept.putAgg (F := fun k => k = w3.heap.size) (a := ⟨w3.heap.size, 0, none⟩) ((((Kept.refl (fun _ => False) wr).drewN 1).trans hk3 (fun _ _ f => f)).mono (fun _ _ f => f.elim)) (fun _ => rfl) _
              clear hk3 eag eha eput dag2 dha2 dput2 c34
              generalize putAgg y3 _ _ = wn at hdoc hkn ⊢
              have hbw : (ad2.add (k2 * 35)).block < w.heap.size := by rw [add_block]; exact hb20
              have hw2 : w.heap.size ≤ w2.heap.size := by have a1 := HK.out.size; have a2 := HK2.out.size; rw [World.size_alloc] at a1; omega
              have eb : wn.heap[(ad2.add (k2 * 35)).block]? = wr.heap[(ad2.add (k2 * 35)).block]? := hkn.block _ (by omega) (by omega)
              have hag' := (aggAt_block eb 35).trans hag
              have hha' : hasAt wn (ad2.add (k2 * 35)) 35 := by rw [hasAt_block eb]; exact hha
              have hRn := HP2.out.rcv.kept hkn (fun f => HP2.out.ne f.symm) (fun j hj f => HP2.out.gne j hj f)
              have hszn : w.heap.size + 1 ≤ wn.heap.size := Nat.le_trans hsz hkn.size
              have HDOC := Lib.hid hdoc
              have HKN := Lib.hid hkn
              have HRN := Lib.hid hRn
              clear hdoc hkn hRn eb
              go_wp2_with fail
              refine (own_any _ _ _ _ _).mono ?_
              rintro e y4 ⟨rfl, hk4⟩
              have H4 := Lib.hid hk4
              have hR4 := HRN.out.kept hk4 (fun f => f) (fun _ _ f => f)
              have hsz4 : w.heap.size + 1 ≤ y4.heap.size := Nat.le_trans hszn hk4.size
              have dl4 : w3.heap.size < y4.heap.size := Nat.lt_of_lt_of_le dlt (Nat.le_trans HKN.out.size hk4.size)
              clear hk4
              go_wp2_with fail
              refine (hear_any hR4 h0 h1 hbl2 (by omega) hsz4).mono ?_
              rintro e y5 ⟨rfl, g', hR5', hk5, hg5⟩
              have hsh := hearS_short id size bs2 d2 v cid fr t hbl2
              generalize hearS id size bs2 d2 v cid fr t = r at hR5' hsh HDOC ⊢
              obtain ⟨⟨bs', d'⟩, c'⟩ := r
              have HRY : Hid (Rcv (w.heap.size + 1) wq.heap.size id size bs' d' g' y5) := Lib.hid hR5'
              have HDY : Hid (y4.heap[w3.heap.size]? = some (.cells (rL id size ⟨bs'.toArray⟩ d').toArray 41 (0, 0))) := Lib.hid (H4.out.heap HDOC.out (fun f => f))
              have hsh' : bs'.length ≤ size := hsh
              have HKY := Lib.hid hk5
              have HGY := Lib.hid hg5
              clear hR4 hR5' hk5 hg5 hsh HDOC hag hag' hha hha'
              (try go_wp2)
              go_roundw
              case rel =>
                refine ⟨k2 + 1, bs', d', g', by omega, by go_num, ⟨HRY.out, HKY.out.heap HDY.out ?_, hsh', HP2.out.ne, ?_⟩, ((HQ2.out.kept HKN.out ?_ ?_ ?_).kept H4.out (fun f => f) (fun f => f) (fun _ _ f => f)).kept HKY.out ?_ ?_ ?_, ?_, ?_, ?_⟩
                · rintro (f | f)
                  · exact HP2.out.ne f
                  · exact HP2.out.gne _ f rfl
                · intro j hj
                  rcases HGY.out with f | f
                  · rw [f] at hj; exact HP2.out.gne j hj
                  · have := f j hj; omega
                · intro f
                  have f' : w1.heap.size + 1 = w3.heap.size := f
                  omega
                · intro f
                  have f' : w2.heap.size = w3.heap.size := f
                  omega
                · intro j hj f
                  have f' : j = w3.heap.size := f
                  have := (HP.out.rcv.glt j hj).2
                  omega
                · rintro (f | f)
                  · omega
                  · have := HG2.out _ f; omega
                · rintro (f | f)
                  · omega
                  · have := HG2.out _ f; omega
                · rintro j hj (f | f)
                  · have := (HP.out.rcv.glt j hj).2; omega
                  · have := HG2.out _ f; have := (HP.out.rcv.glt j hj).2; omega
                · refine ((HKX.out.trans HKN.out ?_).trans H4.out (fun _ _ f => f)).trans HKY.out ?_
                  · intro i hi f
                    have f' : i = w3.heap.size := f
                    omega
                  · rintro i hi (f | f)
                    · omega
                    · have := HG2.out i f; omega
                · refine HKY.out.heap (H4.out.heap (HKN.out.heap HJ2.out ?_) (fun f => f)) ?_
                  · intro f
                    have f' : w.heap.size = w3.heap.size := f
                    omega
                  · rintro (f | f)
                    · omega
                    · have := HG2.out _ f; omega
                · intro j hj
                  rcases HGY.out with f | f
                  · rw [f] at hj; exact HG2.out j hj
                  · have := f j hj; omega
              case measure => simp [intOf]; omega
        · obtain rfl : k2 = len2 := by omega
          have vlt2 := (Array.getElem?_eq_some_iff.1 hP2.doc).1
          have wlt2 := (Array.getElem?_eq_some_iff.1 hQ2.doc).1
          have hsep2 : Sep (w1.heap.size + 1) g wq.heap.size g2 := ⟨fun f => by have := hg2 _ f; omega, fun f => by have := (HP.out.rcv.glt _ f).2; omega, fun j f f' => by have a := (HP.out.rcv.glt _ f).2; have b := hg2 _ f'; omega⟩
          obtain ⟨pag, pha, _⟩ := doc_facts hP2.doc
          obtain ⟨qag, qha, _⟩ := doc_facts hQ2.doc
          have p33 := rr_c33 hP2.doc
          have p34 := rr_c34 hP2.doc
          have q33 := rr_c33 hQ2.doc
          have q34 := rr_c34 hQ2.doc
          obtain ⟨il3, ia3, ih3⟩ := idAt_of HJ2.out
          have HP2 := Lib.hid hP2
          have HQ2 := Lib.hid hQ2
          have HKX := Lib.hid hKx
          have HG2 := Lib.hid hg2
          clear hP2 hQ2 hKx hg2
          have h3 : ∃ E : Bool, (bs2 == bs) = true ∧ (d2 == d) = E ∨ (bs2 == bs) = false ∧ E = false := by
            cases hb : (bs2 == bs)
            · exact ⟨false, .inr ⟨rfl, rfl⟩⟩
            · exact ⟨_, .inl ⟨rfl, rfl⟩⟩
          obtain ⟨E, h3⟩ := h3
          have HE1 : Hid ((size == size && (d2 == d && bs2 == bs)) = E) := Lib.hid (by rcases h3 with ⟨a, b⟩ | ⟨a, b⟩ <;> simp [a, b])
          have HE2 : Hid ((size == size && (d == d2 && bs == bs2)) = E) := Lib.hid (by rw [Bool.beq_comm (a := d), Bool.beq_comm (a := bs)]; exact HE1.out)
          have hne : (size == (size + 1) % 100) = false := by rw [beq_eq_false_iff_ne]; omega
          rcases h3 with ⟨hb, hd⟩ | ⟨hb, rfl⟩
          all_goals
            go_wp2_with fail
            (try clear hd)
            clear hb pag pha qag qha p33 p34 q33 q34
            refine (newReceiver_ok (w.heap.size + 1) id ((size + 1) % 100) _ (by omega) (by omega) (by have := il3; simp; omega)).mono ?_
            rintro e y1 ⟨rfl, hX, hkx⟩
            have hXi : Xi w (w1.heap.size + 1) w2.heap.size wq.heap.size w3.heap.size _ id size ((size + 1) % 100) bs bs2 d d2 g g2 y1 :=
              ⟨HQ2.out.rcv.kept hkx (fun f => f) (fun _ _ f => f), HP2.out.rcv.kept hkx (fun f => f) (fun _ _ f => f), hX, hkx.heap HQ2.out.doc (fun f => f), hkx.heap HP2.out.doc (fun f => f), HKX.out.trans hkx (fun _ _ f => f)⟩
            obtain ⟨ι, hι, W, i0, rfl, k1, k2, k3, k4, c1, c2, c3, c4, c5, HKW⟩ := exit_family ⟨hsep2, fun f => by have := (HQ2.out.rcv.glt _ f).2; omega, fun f => by have := (HP2.out.rcv.glt _ f).2; omega, fun f => HQ2.out.gne _ f rfl, fun f => by have := HG2.out _ f; omega,
              fun f => by have := (HP.out.rcv.glt _ f).2; omega, fun f => HP2.out.gne _ f rfl⟩ hXi HE1.out HE2.out hne
            clear hX hkx hXi
            go_wp2_with fail
            refine (c1.out _).mono ?_
            rintro e y ⟨rfl, j1, rfl⟩
            go_wp2_with fail
            refine (c2.out _).mono ?_
            rintro e y ⟨rfl, j2, rfl⟩
            go_wp2_with fail
            refine (c3.out _).mono ?_
            rintro e y ⟨rfl, j3, rfl⟩
            go_wp2_with fail
            refine (c4.out _).mono ?_
            rintro e y ⟨rfl, j4, rfl⟩
            go_wp2_with fail
            refine (c5.out _).mono ?_
            rintro e y ⟨rfl, j5, rfl⟩
            go_wp2
            go_ret
            exact ⟨rfl, HKW.out _⟩

end Go.Proofs.Ytoeapcfnbomlgaa
