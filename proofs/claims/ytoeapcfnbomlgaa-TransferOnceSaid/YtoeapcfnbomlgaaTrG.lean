/- The walk of bulletinlaw32.TransferOnce over this translation: length, the attempts, the connections.
   Conditions: none beyond the form's own reach of each argument. -/
import Derived.Test.YtoeapcfnbomlgaaTrE
import Derived.Test.YtoeapcfnbomlgaaTrP
import Derived.Test.YtoeapcfnbomlgaaShelf
import Derived.Deep.DeepCutAuto
namespace Go.Proofs.Ytoeapcfnbomlgaa
open Go.RowKit Go.Lib

attribute [local go_sem ↓] S_ld_id S_ld_cmd S_ld_rcmd S_ld_R S_st_cmd S_st_rcmd S_st_R S_st_tk S_al_cmd S_al_rcmd S_al_R S_eq_id S_ne_id S_bd_recv S_bd_send S_bd_cmd S_bd_rcmd S_bd_R S_bd_id
attribute [local go_sem] runS_ld_id runS_ld_cmd runS_ld_rcmd runS_ld_R runS_st_cmd runS_st_rcmd runS_st_R runS_st_tk runS_al_cmd runS_al_rcmd runS_al_R runS_eq_id runS_ne_id guard_id runS_bd_recv2 runS_bd_recv3 runS_bd_send runS_bd_cmd4 runS_bd_cmd2 runS_bd_cmd0 runS_bd_rcmd runS_bd_R runS_bd_one
attribute [local go_sem] isPtr_some addrOf_some aggAt_drew aggAt_drewN hasAt_drew hasAt_drewN aggAt_alloc_old hasAt_alloc_old aggAt_setCell hasAt_setCell aggAt_set_apart hasAt_set_apart aggAt_new hasAt_new canPut_new canPut_drew canPut_drewN canPut_setCell putAgg_new cells_agg isAggOf_mk
  isInt_mk isStr_mk isBool_mk intOf'_mk strOf_mk boolOf_mk isBytes_true bytesOf_mk toId_val kL_whole rL_whole cL_whole take_byteCells byteCells_len' byteCells_all
  vL_length cL_length kL_length rL_length sL_length cL_0 cL_35 cL_38 cL_id cL_all kL_0 kL_33 kL_34 kL_id kL_all rL_32 rL_33 rL_34 rL_id rL_all rL_set33 rL_set34 kL_set33 kL_set34 cL_g0 cL_g35 cL_g38 kL_g0 kL_g33 kL_g34 rL_g32 rL_g33 rL_g34

theorem kept_of_below {w w' : World} (h : Below w.heap.size w w') : Kept (fun _ => False) w w' := ⟨h.os, h.tape, h.output, h.size, fun k hk _ => h.block k hk⟩

/-- length returns some text of at most 8000 bytes. -/
def LenPost (w : World) (e : Ending) (w' : World) : Prop := ∃ t : ByteArray, e = .returned (.string t) ∧ t.size ≤ 8000 ∧ Kept (fun _ => False) w w'
set_option maxHeartbeats 400000 in
theorem length_any (text : ByteArray) (n : Int) (w : World) (ht : text.size ≤ 300) (h0 : 0 ≤ n) (h1 : n ≤ 65535) :
    Calls Try.prog 16 #[.string text, .int .u16 n] w (LenPost w) := by
  obtain ⟨m, hm⟩ : ∃ m : Nat, n % 700 = (m : Int) := ⟨(n % 700).toNat, by omega⟩
  have hm7 : m ≤ 699 := by omega
  have hlen : (Lib.repeatL [48, 49, 50, 51, 52, 53, 54, 55, 56, 57, 10] m).length = m * 11 := Lib.repeatL_length _ m
  have HR := Lib.hid (Try.strings_Repeat ⟨#[48, 49, 50, 51, 52, 53, 54, 55, 56, 57, 10]⟩ m w (by omega) (by show 11 * m ≤ _; omega))
  have HLEN := Lib.hid hlen
  have hls : text.size + (Lib.repeatL [48, 49, 50, 51, 52, 53, 54, 55, 56, 57, 10] m).length ≤ 8000 := by omega
  have hsz : text.size + (⟨(Lib.repeatL [48, 49, 50, 51, 52, 53, 54, 55, 56, 57, 10] m).toArray⟩ : ByteArray).size ≤ 8000 := hls
  clear hlen
  have HM := Lib.hid hm
  go_enter Try.func16, Try.ntmps16
  go_wp2_with (go_at_call 25; refine HR.out.mono ?_; rintro e w' ⟨rfl, hb⟩)
  go_ret
  refine ⟨_, rfl, ?_, kept_of_below hb⟩
  rw [ByteArray.size_append]
  exact hsz

/-- The elements of a []Attempt: element k is (chunk, arrive, the strange command). -/
structure Atts (A : Option Addr) (len : Nat) (E : Nat → (Int × Int) × (Int × Id × Int × ByteArray)) (w : World) : Prop where
  at_ : 0 < len → ∃ ad, A = some ad ∧ ad.block < w.heap.size
  c0 : ∀ k ad, k < len → A = some ad → w.cell? (ad.add (k * 37)) = some (.int .u16 (E k).1.1) ∧ w.cell? ⟨(ad.add (k * 37)).block, (ad.add (k * 37)).off + 1, none⟩ = some (.int .u8 (E k).1.2)
  agg : ∀ k ad, k < len → A = some ad → aggAt w ⟨(ad.add (k * 37)).block, (ad.add (k * 37)).off + 2, none⟩ 35 = kL (E k).2.1 (E k).2.2.1 (E k).2.2.2.1 (E k).2.2.2.2 ∧ hasAt w ⟨(ad.add (k * 37)).block, (ad.add (k * 37)).off + 2, none⟩ 35
  small : ∀ k, k < len → 0 ≤ (E k).1.1 ∧ (E k).1.1 ≤ 65535 ∧ 0 ≤ (E k).1.2 ∧ (E k).1.2 ≤ 255 ∧ (E k).2.2.2.2.size ≤ 140737488355328 ∧ -9223372036854775808 ≤ (E k).2.2.2.1 ∧ (E k).2.2.2.1 ≤ 9223372036854775807

theorem Atts.kept {F : Nat → Prop} {A : Option Addr} {len : Nat} {E : Nat → (Int × Int) × (Int × Id × Int × ByteArray)} {w w' : World} (h : Atts A len E w) (hk : Kept F w w') (hF : ∀ k, k < w.heap.size → ¬ F k) : Atts A len E w' := by
  refine ⟨fun hl => ?_, fun k ad hk' ha => ?_, fun k ad hk' ha => ?_, h.small⟩
  · obtain ⟨ad, ha, hb⟩ := h.at_ hl
    exact ⟨ad, ha, Nat.lt_of_lt_of_le hb hk.size⟩
  · obtain ⟨ad', ha', hb⟩ := h.at_ (by omega)
    rw [ha] at ha'
    injection ha' with ha'
    subst ha'
    have := h.c0 k ad hk' ha
    exact ⟨(hk.cell (p := ad.add (k * 37)) (by rw [add_block]; exact hb) (by rw [add_block]; exact hF _ hb)).trans this.1, (hk.cell (p := ⟨(ad.add (k * 37)).block, _, none⟩) (by rw [add_block]; exact hb) (by rw [add_block]; exact hF _ hb)).trans this.2⟩
  · obtain ⟨ad', ha', hb⟩ := h.at_ (by omega)
    rw [ha] at ha'
    injection ha' with ha'
    subst ha'
    have e : w'.heap[(ad.add (k * 37)).block]? = w.heap[(ad.add (k * 37)).block]? := by
      rw [add_block]; exact hk.block _ hb (hF _ hb)
    have := h.agg k ad hk' ha
    exact ⟨(aggAt_block (a := ⟨(ad.add (k * 37)).block, (ad.add (k * 37)).off + 2, none⟩) e 35).trans this.1, by rw [hasAt_block (a := ⟨(ad.add (k * 37)).block, (ad.add (k * 37)).off + 2, none⟩) e]; exact this.2⟩

/-- A command of the document in a block. -/
def KAt (b : Nat) (v : Int) (cid : Id) (fr : Int) (t : ByteArray) (w : World) : Prop := w.heap[b]? = some (.cells (kL v cid fr t).toArray 31 (0, 0))
theorem kat_put {w : World} {b : Nat} {v0 : Int} {id0 : Id} {f0 : Int} {t0 : ByteArray} (h : KAt b v0 id0 f0 t0 w) (v : Int) (cid : Id) (fr : Int) (t : ByteArray) : KAt b v cid fr t (putAgg w ⟨b, 0, none⟩ (kL v cid fr t)) := by
  unfold KAt putAgg
  show (w.setCells b 0 _).heap[b]? = _
  rw [setCells_row _ 0 w b _ _ h (by rw [List.size_toArray, kL_length, kL_length]; omega), setRow_heap _ _ _ _ _ _ h]
  rw [List.take_zero, List.nil_append, List.drop_eq_nil_of_le (by simp [kL_length]), List.append_nil]
structure KFacts (b : Nat) (v : Int) (cid : Id) (fr : Int) (t : ByteArray) (w : World) : Prop where
  lt : b < w.heap.size
  c0 : w.cell? ⟨b, 0, none⟩ = some (.int .i64 v)
  c33 : w.cell? ⟨b, 33, none⟩ = some (.int .i64 fr)
  c34 : w.cell? ⟨b, 34, none⟩ = some (.string t)
  a1 : aggAt w ⟨b, 1, none⟩ 32 = byteCells cid.1
  h1 : hasAt w ⟨b, 1, none⟩ 32
  agg : aggAt w ⟨b, 0, none⟩ 35 = kL v cid fr t
  has : hasAt w ⟨b, 0, none⟩ 35
theorem KAt.facts {b : Nat} {v : Int} {cid : Id} {fr : Int} {t : ByteArray} {w : World} (h : KAt b v cid fr t w) : KFacts b v cid fr t w :=
  ⟨(Array.getElem?_eq_some_iff.1 h).1, by rw [Lib.cell_of_heap h]; rfl, by rw [Lib.cell_of_heap h, List.getElem?_toArray, kL_33], by rw [Lib.cell_of_heap h, List.getElem?_toArray, kL_34],
   (aggAt_of h 1 32 (by rw [List.size_toArray, kL_length]; decide)).trans kL_id, hasAt_of h 1 32 (by rw [List.size_toArray, kL_length]; decide),
   (aggAt_of h 0 35 (by rw [List.size_toArray, kL_length]; decide)).trans (kL_whole v cid fr t), hasAt_of h 0 35 (by rw [List.size_toArray, kL_length]; decide)⟩

/-- A strange command is refused. -/
theorem hearS_strange {id : Id} {n : Int} {bs : List UInt8} {d : Bool} {v : Int} {cid : Id} {fr : Int} {t : ByteArray} (hg : (cid.1 == id.1) = false ∨ (fr ≠ bs.length ∧ v = 7) ∨ (v ≠ 7 ∧ v ≠ 8)) :
    (hearS id n bs d v cid fr t).1 = (bs, d) ∧ ((hearS id n bs d v cid fr t).2 == 0) = false := by
  unfold hearS
  by_cases hd : d = true
  · rw [if_pos hd]; exact ⟨rfl, rfl⟩
  rw [if_neg hd]
  by_cases hv : v ≠ 7 ∧ v ≠ 8
  · rw [if_pos hv]; exact ⟨rfl, rfl⟩
  rw [if_neg hv]
  by_cases hc : (cid.1 == id.1) = false
  · rw [if_pos hc]; exact ⟨rfl, rfl⟩
  rw [if_neg hc]
  rcases hg with h | ⟨h1, h2⟩ | h
  · exact absurd h hc
  · rw [if_neg (by omega), if_pos h1]; exact ⟨rfl, rfl⟩
  · exact absurd h hv

/-- The state around the test of a strange command. -/
def Ys (w : World) (rb X : Nat) (id : Id) (n : Int) (bs : List UInt8) (d : Bool) (v : Int) (cid : Id) (fr : Int) (t : ByteArray) (w' : World) : Prop :=
  ∃ g, Rcv (w.heap.size + 1) rb id n bs d g w' ∧ (∀ j, g = some j → j ≠ X) ∧ KAt X v cid fr t w' ∧ w'.heap[w.heap.size]? = some (.cells (byteCells id.1).toArray 23 (0, 0)) ∧ Kept (fun _ => False) w w'

theorem once_family {w : World} {rb X : Nat} {id : Id} {n : Int} {bs : List UInt8} {d : Bool} {v : Int} {cid : Id} {fr : Int} {t : ByteArray} {w' : World} (hrX : X ≠ rb) (hrb : w.heap.size < rb) (hXb : w.heap.size ≤ X) (h : Ys w rb X id n bs d v cid fr t w')
    (h0 : 0 ≤ n) (h1 : n ≤ 65536) (hl : bs.length ≤ n) :
    ∃ (ι : Type) (_ : Nonempty ι) (W : ι → World) (i0 : ι), w'.drew = W i0 ∧ (∀ i, (W i).cell? ⟨X, 0, none⟩ = some (.int .i64 v)) ∧ (∀ i, (W i).cell? ⟨X, 33, none⟩ = some (.int .i64 fr)) ∧ (∀ i, (W i).cell? ⟨X, 34, none⟩ = some (.string t)) ∧
      (∀ i, aggAt (W i) ⟨X, 1, none⟩ 32 = byteCells cid.1) ∧ (∀ i, hasAt (W i) ⟨X, 1, none⟩ 32) ∧ (∀ i, aggAt (W i) ⟨X, 0, none⟩ 35 = kL v cid fr t) ∧ (∀ i, hasAt (W i) ⟨X, 0, none⟩ 35) ∧
      (∀ i, aggAt (W i) ⟨w.heap.size, 0, none⟩ 32 = byteCells id.1) ∧ (∀ i, hasAt (W i) ⟨w.heap.size, 0, none⟩ 32) ∧
      Hid (∀ i, Calls Try.prog 10 #[.pointer (some ⟨rb, 0, none⟩)] (W i) fun e w'' => e = .returned (.int .i64 bs.length) ∧ ∃ j, w'' = W j) ∧
      Hid (∀ i, Calls Try.prog 9 #[.agg (kL v cid fr t).toArray] (W i) fun e w'' => e = .returned (.agg (cL v ⟨#[]⟩ cid 0 fr 0 0 t).toArray) ∧ ∃ j, w'' = W j) ∧
      (t.size ≤ 300 → (hearS id n bs d v cid fr t).1 = (bs, d) → Hid (∀ i, Calls Try.prog 8 #[.pointer (some ⟨rb, 0, none⟩), .agg (cL v ⟨#[]⟩ cid 0 fr 0 0 t).toArray] (W i) fun e w'' => e = .returned (.int .i64 (hearS id n bs d v cid fr t).2) ∧ ∃ j, w'' = W j)) ∧
      Hid (∀ i, Ys w rb X id n bs d v cid fr t (W i)) := by
  have kk : ∀ {y z : World}, Ys w rb X id n bs d v cid fr t y → Kept (fun _ => False) y z → Ys w rb X id n bs d v cid fr t z := by
    rintro y z ⟨g, hR, hg, hX, hI, hk⟩ hyz
    exact ⟨g, hR.kept hyz (fun f => f) (fun _ _ f => f), hg, hyz.heap hX (fun f => f), hyz.heap hI (fun f => f), hk.trans hyz (fun _ _ f => f)⟩
  have h' : Ys w rb X id n bs d v cid fr t w'.drew := kk h ((Kept.refl _ _).drewN 1)
  refine ⟨{ y : World // Ys w rb X id n bs d v cid fr t y }, ⟨⟨_, h'⟩⟩, fun y => y.1, ⟨_, h'⟩, rfl, ?_, ?_, ?_, ?_, ?_, ?_, ?_, ?_, ?_, Lib.hid ?_, Lib.hid ?_, fun ht hs => Lib.hid ?_, Lib.hid fun i => i.2⟩
  · rintro ⟨y, g, hR, hg, hX, hI, hk⟩; exact hX.facts.c0
  · rintro ⟨y, g, hR, hg, hX, hI, hk⟩; exact hX.facts.c33
  · rintro ⟨y, g, hR, hg, hX, hI, hk⟩; exact hX.facts.c34
  · rintro ⟨y, g, hR, hg, hX, hI, hk⟩; exact hX.facts.a1
  · rintro ⟨y, g, hR, hg, hX, hI, hk⟩; exact hX.facts.h1
  · rintro ⟨y, g, hR, hg, hX, hI, hk⟩; exact hX.facts.agg
  · rintro ⟨y, g, hR, hg, hX, hI, hk⟩; exact hX.facts.has
  · rintro ⟨y, g, hR, hg, hX, hI, hk⟩; exact (idAt_of hI).2.1
  · rintro ⟨y, g, hR, hg, hX, hI, hk⟩; exact (idAt_of hI).2.2
  · rintro ⟨y, g, hR, hg, hX, hI, hk⟩
    exact (from_any hR).mono fun e z ⟨he, hz⟩ => ⟨he, ⟨y, g, hR, hg, hX, hI, hk⟩, hz.symm⟩
  · rintro ⟨y, hy⟩
    exact (own_any v cid fr t y).mono fun e z ⟨he, hz⟩ => ⟨he, ⟨z, kk hy hz⟩, rfl⟩
  · rintro ⟨y, g, hR, hg, hX, hI, hk⟩
    refine (hear_any hR h0 h1 hl (by omega) (by have := (Array.getElem?_eq_some_iff.1 hI).1; show _ ≤ y.heap.size; omega)).mono fun e z ⟨he, g', hR', hz, hg'⟩ => ⟨he, ⟨z, g', ?_, ?_, hz.heap hX ?_, hz.heap hI ?_, hk.trans hz ?_⟩, rfl⟩
    · rw [hs] at hR'; exact hR'
    · intro j hj
      rcases hg' with f | f
      · rw [f] at hj; exact hg j hj
      · have := f j hj; have := (Array.getElem?_eq_some_iff.1 hX).1; omega
    · rintro (f | f)
      · exact hrX f
      · exact hg _ f rfl
    · rintro (f | f)
      · omega
      · have := (hR.glt _ f).1; omega
    · rintro j hj (f | f)
      · omega
      · have := (hR.glt _ f).1; omega

set_option maxRecDepth 10000 in
set_option maxHeartbeats 1000000 in
theorem once_known {id : Id} {text : ByteArray} {n : Int} {A : Option Addr} {len cap : Nat} (w : World) (h : 300 < text.size ∨ (text.size ≤ 300 ∧ 20 < len)) :
    Calls Try.prog 5 #[.agg (byteCells id.1).toArray, .string text, .int .u16 n, .slice A len cap] w fun e w' => e = .returned (.bool true) ∧ Kept (fun _ => False) w w' := by
  rcases h with h | ⟨h0, h⟩
  all_goals
    go_enter Try.func5, Try.ntmps5
    go_wp2_with fail
    refine (known_any _).mono ?_
    rintro e w1 ⟨rfl, hk⟩
    go_wp2_with fail
    refine (known_any _).mono ?_
    rintro e w2 ⟨rfl, hk2⟩
    go_wp2
    go_ret
    exact ⟨rfl, ((Kept.refl _ w).alloc _).trans hk (fun _ _ f => f) |>.trans hk2 (fun _ _ f => f)⟩

/-! ### one command of a connection -/
/-- What Say hands back while the end was not said, and what the receiver makes of it. -/
def SayPost (B rb sb : Nat) (id : Id) (T : ByteArray) (chunk : Int) (bs : List UInt8) (w : World) (e : Ending) (w' : World) : Prop :=
  ∃ (v fr : Int) (t : ByteArray) (bs3 : List UInt8) (d3 : Bool), e = .returned (.tuple #[.agg (cL v ⟨#[]⟩ id 0 fr 0 0 t).toArray, .bool true]) ∧ Snd sb id T chunk bs3.length d3 w' ∧ Kept (fun k => k = sb) w w' ∧
    bs3 <+: T.data.toList ∧ (d3 = true → bs3.length = T.size) ∧ bs.length ≤ bs3.length ∧ (d3 = true ∨ bs.length + 1 ≤ bs3.length) ∧
    Hid (∀ (g : Option Nat) (y : World), Rcv B rb id T.size bs false g y → B ≤ y.heap.size → Calls Try.prog 8 #[.pointer (some ⟨rb, 0, none⟩), .agg (cL v ⟨#[]⟩ id 0 fr 0 0 t).toArray] y fun e z =>
      e = .returned (.int .i64 0) ∧ ∃ g', Rcv B rb id T.size bs3 d3 g' z ∧ Kept (fun k => k = rb ∨ g = some k) y z ∧ (g' = g ∨ ∀ k, g' = some k → y.heap.size ≤ k))

theorem extract_list (T : ByteArray) (i j : Nat) : (T.extract i j).data.toList = (T.data.toList.drop i).take (j - i) := by
  rw [ByteArray.data_extract, Array.toList_extract]
theorem part_prefix {T : ByteArray} {bs : List UInt8} (hp : bs <+: T.data.toList) (j : Nat) (h1 : bs.length ≤ j) (h2 : j ≤ T.size) :
    bs ++ (T.extract bs.length j).data.toList = T.data.toList.take j ∧ (bs ++ (T.extract bs.length j).data.toList).length = j := by
  have hb : bs = T.data.toList.take bs.length := List.prefix_iff_eq_take.1 hp
  have e : bs ++ (T.extract bs.length j).data.toList = T.data.toList.take j := by
    rw [extract_list]
    conv => lhs; lhs; rw [hb]
    conv => rhs; rw [← List.take_append_drop bs.length T.data.toList]
    have hl : T.data.toList.length = T.size := by simp
    rw [List.take_append, List.take_take, List.length_take, Nat.min_eq_right h1, hl, Nat.min_eq_left (by omega)]
  refine ⟨e, ?_⟩
  rw [e, List.length_take]
  have : T.data.toList.length = T.size := by simp
  omega

theorem say_any {B rb sb : Nat} {id : Id} {T : ByteArray} {chunk : Int} {bs : List UInt8} {w : World} (h : Snd sb id T chunk bs.length false w) (hs : T.size ≤ 8000) (h1 : 1 ≤ chunk) (h2 : chunk ≤ 4096) (hp : bs <+: T.data.toList) :
    Calls Try.prog 19 #[.pointer (some ⟨sb, 0, none⟩)] w (SayPost B rb sb id T chunk bs w) := by
  have hle : bs.length ≤ T.size := by have := hp.length_le; simpa using this
  have hid : (id.1 == id.1) = true := beq_self_eq_true _
  by_cases he : bs.length = T.size
  · rw [he] at h
    refine (say_last h (by omega)).mono ?_
    rintro e w' ⟨he', hS, hk⟩
    refine ⟨8, 0, ⟨#[]⟩, bs, true, he', by rw [he]; exact hS, hk, hp, fun _ => he, Nat.le_refl _, .inl rfl, Lib.hid fun g y hR hB => ?_⟩
    refine (hear_done hR hid (by omega)).mono fun e z ⟨a, b, c⟩ => ⟨a, g, b, c.mono (fun _ _ f => .inl f), .inl rfl⟩
  · by_cases hc : (T.size : Int) ≤ bs.length + chunk
    · refine (say_part1 h (by omega) h1 h2 (by omega) (by omega) hc).mono ?_
      rintro e w' ⟨he', hS, hk⟩
      obtain ⟨q1, q2⟩ := part_prefix hp T.size hle (Nat.le_refl _)
      have e0 : ((bs.length : Int)).toNat = bs.length := by omega
      have e1 : ((T.size : Int)).toNat = T.size := by omega
      rw [e0, e1] at he'
      refine ⟨7, bs.length, T.extract bs.length T.size, bs ++ (T.extract bs.length T.size).data.toList, false, he', by rw [q2]; exact hS, hk, by rw [q1]; exact List.take_prefix _ _, (fun f => by cases f), by omega, .inr (by omega), Lib.hid fun g y hR hB => ?_⟩
      refine (hear_data hR hid (by omega) (by omega) ?_ hB)
      have : (T.extract bs.length T.size).data.toList.length = T.size - bs.length := by rw [List.length_append] at q2; omega
      have h3 : (T.extract bs.length T.size).data.toList.length = (T.extract bs.length T.size).size := Array.length_toList
      omega
    · obtain ⟨c, rfl⟩ : ∃ c : Nat, chunk = c := ⟨chunk.toNat, by omega⟩
      refine (say_part2 h (by omega) h1 h2 (by omega) (by omega) (by omega)).mono ?_
      rintro e w' ⟨he', hS, hk⟩
      obtain ⟨q1, q2⟩ := part_prefix hp (bs.length + c) (by omega) (by omega)
      have e0 : ((bs.length : Int)).toNat = bs.length := by omega
      have e1 : ((bs.length : Int) + c).toNat = bs.length + c := by omega
      rw [e0, e1] at he'
      refine ⟨7, bs.length, T.extract bs.length (bs.length + c), bs ++ (T.extract bs.length (bs.length + c)).data.toList, false, he', by rw [q2]; exact hS, hk, by rw [q1]; exact List.take_prefix _ _, (fun f => by cases f), by omega, .inr (by omega), Lib.hid fun g y hR hB => ?_⟩
      refine (hear_data hR hid (by omega) (by omega) ?_ hB)
      have : (T.extract bs.length (bs.length + c)).data.toList.length = c := by rw [List.length_append] at q2; omega
      have h3 : (T.extract bs.length (bs.length + c)).data.toList.length = (T.extract bs.length (bs.length + c)).size := Array.length_toList
      omega

theorem text_T {B b : Nat} {id : Id} {n : Int} {T : ByteArray} {g : Option Nat} {w : World} (h : Rcv B b id n T.data.toList true g w) :
    Calls Try.prog 11 #[.pointer (some ⟨b, 0, none⟩)] w fun e w' => e = .returned (.tuple #[.string T, .int .i64 0]) ∧ Rcv B b id n T.data.toList true g w' ∧ Kept (fun k => g = some k) w w' := text_yes h
theorem from_T {B b : Nat} {id : Id} {n : Int} {T : ByteArray} {d : Bool} {g : Option Nat} {w : World} (h : Rcv B b id n T.data.toList d g w) :
    Calls Try.prog 10 #[.pointer (some ⟨b, 0, none⟩)] w fun e w' => e = .returned (.int .i64 T.size) ∧ w = w' := by
  have := from_any h
  rwa [show T.data.toList.length = T.size by simp] at this
end Go.Proofs.Ytoeapcfnbomlgaa
