/- Equality of two receivers over this translation.
   Conditions: the two lie apart. -/
import Derived.Test.YtoeapcfnbomlgaaTrD
import Derived.Deep.QuietTactic
namespace Go.Proofs.Ytoeapcfnbomlgaa
open Go.RowKit Go.Lib

attribute [local go_sem ↓] S_ld_id S_ld_cmd S_ld_rcmd S_ld_R S_st_cmd S_st_rcmd S_st_R S_st_tk S_al_cmd S_al_rcmd S_al_R S_eq_id S_ne_id S_bd_recv S_bd_send S_bd_cmd S_bd_rcmd S_bd_R S_bd_id
attribute [local go_sem] runS_ld_id runS_ld_cmd runS_ld_rcmd runS_ld_R runS_st_cmd runS_st_rcmd runS_st_R runS_st_tk runS_al_cmd runS_al_rcmd runS_al_R runS_eq_id runS_ne_id guard_id runS_bd_recv2 runS_bd_recv3 runS_bd_send runS_bd_cmd4 runS_bd_cmd2 runS_bd_cmd0 runS_bd_rcmd runS_bd_R runS_bd_one
attribute [local go_sem] isPtr_some addrOf_some aggAt_drew aggAt_drewN hasAt_drew hasAt_drewN aggAt_alloc_old hasAt_alloc_old aggAt_setCell hasAt_setCell aggAt_set_apart hasAt_set_apart aggAt_new hasAt_new canPut_new canPut_drew canPut_drewN canPut_setCell putAgg_new cells_agg isAggOf_mk
  isInt_mk isStr_mk isBool_mk intOf'_mk strOf_mk boolOf_mk isBytes_true bytesOf_mk toId_val kL_whole rL_whole cL_whole take_byteCells byteCells_len' byteCells_all
  vL_length cL_length kL_length rL_length sL_length cL_0 cL_35 cL_38 cL_id cL_all kL_0 kL_33 kL_34 kL_id kL_all rL_32 rL_33 rL_34 rL_id rL_all rL_set33 rL_set34 kL_set33 kL_set34 cL_g0 cL_g35 cL_g38 kL_g0 kL_g33 kL_g34 rL_g32 rL_g33 rL_g34

attribute [local go_sem] aggAt_al1 aggAt_al2 hasAt_al1 hasAt_al2

structure EqI (B b1 b2 : Nat) (id : Id) (n1 n2 : Int) (bs1 bs2 : List UInt8) (d1 d2 : Bool) (g1 g2 : Option Nat) (w w' : World) : Prop where
  r1 : Rcv B b1 id n1 bs1 d1 g1 w'
  r2 : Rcv B b2 id n2 bs2 d2 g2 w'
  sep : Sep b1 g1 b2 g2
  kept : Kept (fun k => g1 = some k ∨ g2 = some k) w w'

section
variable {B b1 b2 : Nat} {id : Id} {n1 n2 : Int} {bs1 bs2 : List UInt8} {d1 d2 : Bool} {g1 g2 : Option Nat} {w w' : World}
theorem EqI.call1 (h : EqI B b1 b2 id n1 n2 bs1 bs2 d1 d2 g1 g2 w w') :
    Calls Try.prog 23 #[.pointer (some ⟨b1, 33, none⟩)] w' fun e w'' => e = .returned (.string ⟨bs1.toArray⟩) ∧ EqI B b1 b2 id n1 n2 bs1 bs2 d1 d2 g1 g2 w w'' :=
  (rcv_String h.r1).mono fun _ _ ⟨he, hR, hk⟩ => ⟨he, hR, h.r2.kept hk h.sep.b (fun k a b => h.sep.c k b a), h.sep, h.kept.trans hk (fun _ _ f => .inl f)⟩
theorem EqI.call2 (h : EqI B b1 b2 id n1 n2 bs1 bs2 d1 d2 g1 g2 w w') :
    Calls Try.prog 23 #[.pointer (some ⟨b2, 33, none⟩)] w' fun e w'' => e = .returned (.string ⟨bs2.toArray⟩) ∧ EqI B b1 b2 id n1 n2 bs1 bs2 d1 d2 g1 g2 w w'' :=
  (rcv_String h.r2).mono fun _ _ ⟨he, hR, hk⟩ => ⟨he, h.r1.kept hk h.sep.a h.sep.c, hR, h.sep, h.kept.trans hk (fun _ _ f => .inr f)⟩
theorem EqI.cells (h : EqI B b1 b2 id n1 n2 bs1 bs2 d1 d2 g1 g2 w w') :
    w'.cell? ⟨b1, 32, none⟩ = some (.int .i64 n1) ∧ w'.cell? ⟨b1, 35, none⟩ = some (.bool d1) ∧ aggAt w' ⟨b1, 0, none⟩ 32 = byteCells id.1 ∧ hasAt w' ⟨b1, 0, none⟩ 32 ∧
    w'.cell? ⟨b2, 32, none⟩ = some (.int .i64 n2) ∧ w'.cell? ⟨b2, 35, none⟩ = some (.bool d2) ∧ aggAt w' ⟨b2, 0, none⟩ 32 = byteCells id.1 ∧ hasAt w' ⟨b2, 0, none⟩ 32 ∧ EqI B b1 b2 id n1 n2 bs1 bs2 d1 d2 g1 g2 w w' :=
  ⟨h.r1.facts.c32, h.r1.facts.c35, h.r1.facts.agg, h.r1.facts.has, h.r2.facts.c32, h.r2.facts.c35, h.r2.facts.agg, h.r2.facts.has, h⟩
end

theorem wp_region_quiet_C {P : Program} {C : World → Prop} {id : Nat} {Q : Exit → Act → World → Prop} {a : Act} {w : World} {l : List Oper} (hm : P.follows .mixedOrders = true) (hB : Region.lexB .any l.toArray = true) (hC : C { w with drawn := w.drawn + 1 })
    (h : wpQuiet P l.toArray C (fun a' => ∀ w', C w' → Q .normal a' w') l a) : (Code.region id l.toArray true).wp P Q a w :=
  wp_region_quiet (C := C) hm hB hC (by simpa using h)

set_option maxHeartbeats 2000000 in
theorem equal_core {b1 b2 : Nat} {id : Id} {n1 n2 : Int} {bs1 bs2 : List UInt8} {d1 d2 : Bool} {w : World} {ι : Type} [Nonempty ι] (W : ι → World) (i0 : ι) (h0 : w.drew = W i0) (hn : (n1 == n2) = true) (hd : (d1 == d2) = true)
    (p1 : ∀ i, (W i).cell? ⟨b1, 32, none⟩ = some (.int .i64 n1)) (p2 : ∀ i, (W i).cell? ⟨b1, 35, none⟩ = some (.bool d1)) (p3 : ∀ i, aggAt (W i) ⟨b1, 0, none⟩ 32 = byteCells id.1) (p4 : ∀ i, hasAt (W i) ⟨b1, 0, none⟩ 32)
    (q1 : ∀ i, (W i).cell? ⟨b2, 32, none⟩ = some (.int .i64 n2)) (q2 : ∀ i, (W i).cell? ⟨b2, 35, none⟩ = some (.bool d2)) (q3 : ∀ i, aggAt (W i) ⟨b2, 0, none⟩ 32 = byteCells id.1) (q4 : ∀ i, hasAt (W i) ⟨b2, 0, none⟩ 32)
    (c1 : Hid (∀ i, Calls Try.prog 23 #[.pointer (some ⟨b1, 33, none⟩)] (W i) fun e w'' => e = .returned (.string ⟨bs1.toArray⟩) ∧ ∃ j, w'' = W j))
    (c2 : Hid (∀ i, Calls Try.prog 23 #[.pointer (some ⟨b2, 33, none⟩)] (W i) fun e w'' => e = .returned (.string ⟨bs2.toArray⟩) ∧ ∃ j, w'' = W j)) :
    Calls Try.prog 14 #[.pointer (some ⟨b1, 0, none⟩), .pointer (some ⟨b2, 0, none⟩)] w fun e w' => e = .returned (.bool (bs1 == bs2)) ∧ ∃ j, w' = W j := by
  have hid : (id.1 == id.1) = true := beq_self_eq_true _
  go_enter Try.func14, Try.ntmps14
  go_wp2
  refine wp_region_quiet_C (C := fun w' => ∃ i, w' = W i) (by kernel_rfl) (by kernel_rfl) ⟨i0, h0⟩ ?_
  repeat (quiet_step (first
    | (go_at_call_of 23 (Value.pointer (some ⟨b1, 33, none⟩)); exact c1.out _)
    | (go_at_call_of 23 (Value.pointer (some ⟨b2, 33, none⟩)); exact c2.out _)))
  refine wpQuiet_nil ?_
  intro w' hw'
  obtain ⟨j, rfl⟩ := hw'
  go_wp2
  go_ret
  exact ⟨rfl, j, rfl⟩

theorem equal_text {B b1 b2 : Nat} {id : Id} {n1 n2 : Int} {bs1 bs2 : List UInt8} {d1 d2 : Bool} {g1 g2 : Option Nat} {w : World} (h1 : Rcv B b1 id n1 bs1 d1 g1 w) (h2 : Rcv B b2 id n2 bs2 d2 g2 w) (hs : Sep b1 g1 b2 g2) (hn : (n1 == n2) = true) (hd : (d1 == d2) = true) :
    Calls Try.prog 14 #[.pointer (some ⟨b1, 0, none⟩), .pointer (some ⟨b2, 0, none⟩)] w fun e w' => e = .returned (.bool (bs1 == bs2)) ∧ Rcv B b1 id n1 bs1 d1 g1 w' ∧ Rcv B b2 id n2 bs2 d2 g2 w' ∧
      Kept (fun k => g1 = some k ∨ g2 = some k) w w' := by
  have hE : EqI B b1 b2 id n1 n2 bs1 bs2 d1 d2 g1 g2 w w.drew := ⟨h1.drewN 1, h2.drewN 1, hs, (Kept.refl _ w).drewN 1⟩
  have hne : Nonempty { w' : World // EqI B b1 b2 id n1 n2 bs1 bs2 d1 d2 g1 g2 w w' } := ⟨⟨_, hE⟩⟩
  refine (equal_core (bs1 := bs1) (bs2 := bs2) (fun x : { w' : World // EqI B b1 b2 id n1 n2 bs1 bs2 d1 d2 g1 g2 w w' } => x.1) ⟨_, hE⟩ rfl hn hd (fun i => i.2.r1.facts.c32) (fun i => i.2.r1.facts.c35) (fun i => i.2.r1.facts.agg) (fun i => i.2.r1.facts.has)
    (fun i => i.2.r2.facts.c32) (fun i => i.2.r2.facts.c35) (fun i => i.2.r2.facts.agg) (fun i => i.2.r2.facts.has) (Lib.hid fun i => ?_) (Lib.hid fun i => ?_)).mono ?_
  · exact i.2.call1.mono fun e w'' ⟨he, h⟩ => ⟨he, ⟨w'', h⟩, rfl⟩
  · exact i.2.call2.mono fun e w'' ⟨he, h⟩ => ⟨he, ⟨w'', h⟩, rfl⟩
  · rintro e w' ⟨he, j, rfl⟩
    exact ⟨he, j.2.r1, j.2.r2, j.2.kept⟩

/-- Equality of two receivers of one identity. -/
theorem equal_any {B b1 b2 : Nat} {id : Id} {n1 n2 : Int} {bs1 bs2 : List UInt8} {d1 d2 : Bool} {g1 g2 : Option Nat} {w : World} (h1 : Rcv B b1 id n1 bs1 d1 g1 w) (h2 : Rcv B b2 id n2 bs2 d2 g2 w) (hs : Sep b1 g1 b2 g2) :
    Calls Try.prog 14 #[.pointer (some ⟨b1, 0, none⟩), .pointer (some ⟨b2, 0, none⟩)] w fun e w' => e = .returned (.bool (n1 == n2 && (d1 == d2 && bs1 == bs2))) ∧ Rcv B b1 id n1 bs1 d1 g1 w' ∧ Rcv B b2 id n2 bs2 d2 g2 w' ∧
      Kept (fun k => g1 = some k ∨ g2 = some k) w w' := by
  have no : ∀ {e : Ending} {w' : World}, e = .returned (.bool false) ∧ Kept (fun _ => False) w w' → e = .returned (.bool false) ∧ Rcv B b1 id n1 bs1 d1 g1 w' ∧ Rcv B b2 id n2 bs2 d2 g2 w' ∧ Kept (fun k => g1 = some k ∨ g2 = some k) w w' :=
    fun ⟨he, hk⟩ => ⟨he, h1.kept hk (fun f => f) (fun _ _ f => f), h2.kept hk (fun f => f) (fun _ _ f => f), hk.mono (fun _ _ f => f.elim)⟩
  cases hn : (n1 == n2) with
  | false => exact (equal_size h1 h2 hn).mono fun e w' hh => no hh
  | true =>
    have hn' : n1 = n2 := eq_of_beq hn
    subst hn'
    cases hd : (d1 == d2) with
    | false => exact (equal_done h1 h2 hd).mono fun e w' hh => no hh
    | true => exact equal_text h1 h2 hs hn hd
end Go.Proofs.Ytoeapcfnbomlgaa
