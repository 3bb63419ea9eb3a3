/- Memory words for the walks: which blocks a call may turn ('Kept'), arrays cut and joined, a strings.Builder in a field or a block of its own.
   Conditions: none; plain definitions and lemmas, and the contracts of strings.Builder's methods over this translation. -/
import Derived.Test.YteecmcphbehfgaaGreatDoorRows
import Derived.WalkKit
import Derived.WalkSpells
import Derived.WalkLawsBesides
import Derived.Handy
import Derived.Lib.Hide
import Derived.Lib.FrozenHead
import Derived.Lib.UnsafeStr
import Derived.Laws.Externs
import Derived.Deep.MidRow
import Derived.BigQuiet
import Derived.Deep.QuietTactic
namespace Go.Proofs.YteecmcphbehfgaaGreatDoor
open Go.RowKit

/-- All blocks of w outside F stand in w' as they stood. -/
structure Kept (F : Nat → Prop) (w w' : World) : Prop where
  os : w'.os = w.os
  tape : w'.tape = w.tape
  output : w'.output = w.output
  size : w.heap.size ≤ w'.heap.size
  block : ∀ k, k < w.heap.size → ¬ F k → w'.heap[k]? = w.heap[k]?

namespace Kept
variable {F G : Nat → Prop} {w w1 w2 : World}
theorem refl (F : Nat → Prop) (w : World) : Kept F w w := ⟨rfl, rfl, rfl, Nat.le_refl _, fun _ _ _ => rfl⟩
theorem trans (h : Kept F w w1) (k : Kept G w1 w2) (hG : ∀ i, i < w.heap.size → G i → F i) : Kept F w w2 :=
  ⟨k.os.trans h.os, k.tape.trans h.tape, k.output.trans h.output, Nat.le_trans h.size k.size,
   fun i hi hn => (k.block i (Nat.lt_of_lt_of_le hi h.size) (fun g => hn (hG i hi g))).trans (h.block i hi hn)⟩
theorem mono (h : Kept F w w1) (hG : ∀ i, i < w.heap.size → F i → G i) : Kept G w w1 :=
  ⟨h.os, h.tape, h.output, h.size, fun i hi hn => h.block i hi (fun f => hn (hG i hi f))⟩
theorem drew (h : Kept F w w1) : Kept F w w1.drew := ⟨h.os, h.tape, h.output, h.size, h.block⟩
theorem drewN (h : Kept F w w1) (n : Nat) : Kept F w (w1.drewN n) := ⟨h.os, h.tape, h.output, h.size, h.block⟩
theorem alloc (h : Kept F w w1) (o : Obj) : Kept F w (w1.alloc o) :=
  h.trans (G := fun _ => False) ⟨rfl, rfl, rfl, by simp, fun k hk _ => Below.heap_alloc _ _ _ hk⟩ (fun _ _ f => f.elim)
theorem setCell (h : Kept F w w1) {p : Addr} (hp : p.block < w.heap.size → F p.block) (u : Value) : Kept F w (w1.setCell p u) :=
  h.trans (G := fun k => k = p.block) ⟨rfl, rfl, rfl, by simp [World.setCell], fun k _ hn => Below.heap_setCell _ _ _ _ hn⟩ (fun i hi e => by subst e; exact hp hi)
theorem grown {row : Option Nat} (h : Kept F w w1) (hg : w1.grownBy w2 row) (hr : ∀ k, k < w.heap.size → row = some k → F k) : Kept F w w2 :=
  h.trans (G := fun k => row = some k) ⟨hg.os, hg.tape, hg.output, hg.size, fun k hk hn => hg.block k hk (fun e => hn e.symm)⟩ hr
theorem below {B : Nat} (h : Kept F w w1) (hF : ∀ k, k < B → k < w.heap.size → ¬ F k) (hB : B ≤ w.heap.size) : Below B w w1 :=
  ⟨h.os, h.tape, h.output, h.size, fun k hk => h.block k (by omega) (hF k hk (by omega))⟩
theorem cell (h : Kept F w w1) {p : Addr} (hp : p.block < w.heap.size) (hF : ¬ F p.block) : w1.cell? p = w.cell? p := World.cell?_of_block (h.block _ hp hF)
theorem frozen (h : Kept F w w1) {p : Addr} (hp : p.block < w.heap.size) (hF : ¬ F p.block) : w1.frozen? p = w.frozen? p := World.frozen?_of_block (h.block _ hp hF)
theorem heap (h : Kept F w w1) {k : Nat} {o : Obj} (hk : w.heap[k]? = some o) (hF : ¬ F k) : w1.heap[k]? = some o :=
  (h.block k (Array.getElem?_eq_some_iff.1 hk).1 hF).trans hk
theorem grownBy (h : Kept F w w1) {row : Option Nat} (hF : ∀ k, k < w.heap.size → F k → row = some k) : w.grownBy w1 row :=
  ⟨h.os, h.tape, h.output, h.size, fun k hk hn => h.block k hk (fun f => hn (hF k hk f).symm)⟩
end Kept

/-- A strings.Builder at the cells o, o+1 of block b, a row of type T with the cells C; it holds bs; its buffer's block is g. -/
structure Bld (T : TypeId) (B b o : Nat) (C : Array Value) (g : Option Nat) (bs : List Value) (w : World) : Prop where
  base : B ≤ b
  blk : w.heap[b]? = some (.cells C T (0, 0))
  c0 : C[o]? = some (.pointer none) ∨ C[o]? = some (.pointer (some ⟨b, o, none⟩))
  buf : ∃ v, C[o + 1]? = some v ∧ w.ownsRowF B 5 1 v bs.length bs ∧ v.ownBlock = g

namespace Bld
variable {T : TypeId} {B b o : Nat} {C : Array Value} {g : Option Nat} {bs : List Value} {w w' : World}
theorem lt (h : Bld T B b o C g bs w) : b < w.heap.size := (Array.getElem?_eq_some_iff.1 h.blk).1
theorem glt (h : Bld T B b o C g bs w) : ∀ k, g = some k → B ≤ k ∧ k < w.heap.size := by
  obtain ⟨v, _, ho, rfl⟩ := h.buf
  exact ho.lt
theorem gne (h : Bld T B b o C g bs w) (hT : T ≠ 5) : g ≠ some b := by
  obtain ⟨v, _, ho, rfl⟩ := h.buf
  exact Lib.ownBlock_neF ho h.blk hT
theorem size (h : Bld T B b o C g bs w) : o + 1 < C.size := by
  obtain ⟨v, hv, _⟩ := h.buf
  exact (Array.getElem?_eq_some_iff.1 hv).1
/-- A builder stands while neither its block nor its buffer's is turned. -/
theorem kept {F : Nat → Prop} (h : Bld T B b o C g bs w) (hk : Kept F w w') (hb : ¬ F b) (hg : ∀ k, g = some k → ¬ F k) : Bld T B b o C g bs w' := by
  obtain ⟨v, hv, ho, hvg⟩ := h.buf
  refine ⟨h.base, hk.heap h.blk hb, h.c0, v, hv, ?_, hvg⟩
  have hgk : w.grownBy w' (if g.isSome then none else none) ∨ True := .inr trivial
  clear hgk
  refine ⟨ho.1, ?_⟩
  rcases ho.2 with hn | ⟨g', cap, cur, fz, rfl, hb', hgg, rest⟩
  · exact .inl hn
  · refine .inr ⟨g', cap, cur, fz, rfl, hb', ?_, rest⟩
    exact hk.heap hgg (hg g' (by rw [← hvg]; rfl))
theorem drew (h : Bld T B b o C g bs w) : Bld T B b o C g bs w.drew := h.kept (F := fun _ => False) ((Kept.refl _ _).drew) id (fun _ _ => id)
theorem alloc (h : Bld T B b o C g bs w) (ob : Obj) : Bld T B b o C g bs (w.alloc ob) := h.kept (F := fun _ => False) ((Kept.refl _ _).alloc _) id (fun _ _ => id)
/-- A store into the builder's block, beside the builder's two cells. -/
theorem setOther (h : Bld T B b o C g bs w) (hT : T ≠ 5) {i : Nat} (hi : i ≠ o) (hi' : i ≠ o + 1) (u : Value) : Bld T B b o (C.setIfInBounds i u) g bs (w.setCell ⟨b, i, none⟩ u) := by
  obtain ⟨v, hv, ho, hvg⟩ := h.buf
  refine ⟨h.base, heap_setCell_same w b i C T u h.blk, ?_, v, ?_, ?_, hvg⟩
  · rw [Array.getElem?_setIfInBounds_ne (by omega)]; exact h.c0
  · rw [Array.getElem?_setIfInBounds_ne (by omega)]; exact hv
  · exact ho.kept (row := some b) ⟨rfl, rfl, rfl, by simp [World.setCell], fun k _ hk => Below.heap_setCell _ _ _ _ (fun e => hk (by simp [e]))⟩ (Or.inr (by rw [hvg]; exact h.gne hT))
end Bld

theorem arr_get_set {C : Array Value} {i : Nat} (u : Value) (h : i < C.size) : (C.setIfInBounds i u)[i]? = some u := by
  rw [Array.getElem?_setIfInBounds_self, if_pos h]

/-! ### append of a string to a row of bytes: where the new row lies -/
theorem run_append_str {P : Program} (w : World) (base : Nat) (t u ty e : TypeId) (i : TypeInfo) (ht : P.underlying t = some (.slice e)) (hu : P.underlying u = some .string) (hi : P.info? e = some i) (hz : i.zero = some (.int .u8 0))
    (hsize : i.size = 1) (hby : i.bytes = 1) (v : Value) (n : Nat) (xs : List Value) (hown : w.ownsRowF base e 1 v n xs) (s : ByteArray)
    (h63 : n + s.size ≤ maxLen) (hbytes : n + s.size ≤ 140737488355328) (hbase : base ≤ w.heap.size) :
    ∃ v' w', (Builtin.append_ #[t, u] ty #[v, .string s]).run P w = .ok v' w' ∧ w'.ownsRowF base e 1 v' (n + s.size) (xs ++ Lib.strCells s) ∧ w.grownBy w' v.ownBlock ∧
      (v'.ownBlock = v.ownBlock ∨ ∀ k, v'.ownBlock = some k → w.heap.size ≤ k) := by
  obtain ⟨v', w', hr, h2, h3, h4⟩ := Lib.run_append_own_stringF (P := P) w base t u ty e i ht hu hi hz hsize hby v n xs hown s h63 hbytes hbase
  refine ⟨v', w', hr, h2, h3, ?_⟩
  have hsmall : n + s.size ≤ 9223372036854775807 := by simp only [maxLen] at h63; omega
  rcases hown.2 with ⟨rfl, rfl⟩ | ⟨g, cap, cur, fz, rfl, hbg, hg, hfz, hnc, hcm, hcs, htake⟩
  · by_cases hm : s.size = 0
    · left; rw [h4.2 ⟨rfl, hm⟩]
    · right
      have hr2 := run_append_nil_string (P := P) w t u ty e i (.int .u8 0) ht hu hi hz s (by omega) (by omega) (by rw [hby]; omega)
      rw [hr] at hr2
      injection hr2 with e1 _
      subst e1
      intro k hk
      simp [Value.ownBlock] at hk
      omega
  · have hxl : xs.length = n := by simpa using hown.1
    by_cases hroom : n + s.size ≤ cap
    · left
      have hcs' : cur.size = cap := by simpa using hcs
      have hr2 := Lib.run_append_room_stringF (P := P) w t u ty e i ht hu hi hsize g n cap cur fz hg (by simpa using hfz) s hroom (by omega)
      rw [hr] at hr2
      injection hr2 with e1 _
      subst e1
      rfl
    · right
      have holds : ∀ j u, xs[j]? = some u → w.cell? ((⟨g, 0, none⟩ : Addr).add j) = some u := hown.cells (g := g) rfl
      have hr2 := Lib.run_append_grow_string (P := P) w t u ty e i (.int .u8 0) ht hu hi hz ⟨g, 0, none⟩ n cap xs (by rw [hsize]; simpa using hxl) holds s (by omega) (by omega) (by rw [hby]; exact growslice_fits (by omega) (by omega))
      rw [hr] at hr2
      injection hr2 with e1 _
      subst e1
      intro k hk
      simp [Value.ownBlock] at hk
      omega

theorem wpList_append_str {P : Program} (w : World) {ops : Array Oper} {rest : List Oper} {o : Oper} {a : Act} {Q : Exit → Act → World → Prop} (hgd : o.guard = none) (sl x : Operand) (t u : TypeId)
    (ho : o.op = .call { callee := .builtin .append, args := #[sl, x], argTypes := #[t, u] })
    (base : Nat) (e : TypeId) (i : TypeInfo) (ht : P.underlying t = some (.slice e)) (hu : P.underlying u = some .string) (hi : P.info? e = some i) (hz : i.zero = some (.int .u8 0))
    (hsize : i.size = 1) (hby : i.bytes = 1)
    (v : Value) (n : Nat) (xs : List Value) (hs : a.eval sl = v) (hown : w.ownsRowF base e 1 v n xs) (s : ByteArray) (hx : a.eval x = .string s)
    (h63 : n + s.size ≤ maxLen) (hbytes : n + s.size ≤ 140737488355328) (hbase : base ≤ w.heap.size)
    (h : ∀ v' w', w'.ownsRowF base e 1 v' (n + s.size) (xs ++ Lib.strCells s) → w.grownBy w' v.ownBlock → (v'.ownBlock = v.ownBlock ∨ ∀ k, v'.ownBlock = some k → w.heap.size ≤ k) → wpList P ops Q rest (a.put o.dst v') w') : wpList P ops Q (o :: rest) a w := by
  refine wpList_plain hgd fun K hK => ?_
  obtain ⟨v', w', hr, h2, h3, h4⟩ := run_append_str (P := P) w base t u o.type e i ht hu hi hz hsize hby v n xs hown s h63 hbytes hbase
  unfold Oper.wp execOp
  simp only [ho, resolve, invoke, builtin, Sem.run_bind, Sem.run_pure, Result.andThen_ok, List.map_toArray, List.map_cons, List.map_nil, hs, hx, hr]
  exact hK _ _ (h v' w' h2 h3 h4)

/-! ### (*strings.Builder).copyCheck -/
theorem Tryz.bld_ptr : Tryz.prog.underlying 83 = some (.pointer 85) := by kernel_rfl
theorem Tryz.bld_info : (Tryz.prog.info? 85).map (fun i => i.size) = some 2 := by kernel_rfl
theorem Tryz.byte_info : (Tryz.prog.info? 5).map (fun i => (i.zero, i.size, i.bytes)) = some (some (.int .u8 0), 1, 1) := by kernel_rfl
theorem Tryz.byte_cells : Tryz.prog.cellsOf 5 = 1 := by kernel_rfl

set_option maxHeartbeats 1000000 in
set_option maxRecDepth 100000 in
theorem bld_copyCheck_used (b o : Nat) (w : World) (h0 : w.cell? ⟨b, o, none⟩ = some (.pointer (some ⟨b, o, none⟩))) :
    Calls Tryz.prog 74 #[.pointer (some ⟨b, o, none⟩)] w fun e w' => e = .returned (.tuple #[]) ∧ w = w' := by
  obtain ⟨j, hj, _⟩ := Option.map_eq_some_iff.1 Tryz.bld_info
  go_enter Tryz.func74, Tryz.ntmps74
  go_wp2
  rw [Lib.run_neq_ptr_same w _ Tryz.bld_ptr hj]
  go_wp2
  go_end0
  exact ⟨rfl, rfl⟩

set_option maxHeartbeats 1000000 in
set_option maxRecDepth 100000 in
theorem bld_copyCheck_fresh (T b o n : Nat) (w : World) (h0 : w.cell? ⟨b, o, none⟩ = some (.pointer none)) (hsh : w.shape? b = some (T, n)) (hon : o < n)
    (hlies : liesAt Tryz.prog Tryz.prog.depth T (n / Tryz.prog.cellsOf T) o 85 1 = true) (hfz : w.frozen? ⟨b, o, none⟩ = false) :
    Calls Tryz.prog 74 #[.pointer (some ⟨b, o, none⟩)] w fun e w' => e = .returned (.tuple #[]) ∧ w.setCell ⟨b, o, none⟩ (.pointer (some ⟨b, o, none⟩)) = w' := by
  obtain ⟨j, hj, hjs⟩ := Option.map_eq_some_iff.1 Tryz.bld_info
  have HL := Lib.hid hlies; clear hlies
  have HS := Lib.hid hsh; clear hsh
  have HO := Lib.hid hon; clear hon
  go_enter Tryz.func74, Tryz.ntmps74
  go_wp2
  rw [Lib.run_to_unsafe w ⟨b, o, none⟩ Tryz.bld_ptr (by kernel_rfl) hj (by rw [hjs]; decide) HS.out HO.out]
  simp only [Result.andThen]
  rw [Oper.upon_value]
  go_wp2
  rw [run_callFunc_extern Tryz.func101 (by kernel_rfl) (by kernel_rfl) (by kernel_rfl) (e := Extern.AbiNoEscape.same) (by kernel_rfl)]
  rw [Lib.run_noEscape]
  simp only [Result.andThen]
  rw [Oper.upon_value]
  go_wp2
  rw [Lib.run_from_unsafe w ⟨b, o, none⟩ (by kernel_rfl) Tryz.bld_ptr hj HS.out HL.out]
  simp only [Result.andThen]
  rw [Oper.upon_value]
  go_wp2
  go_end0
  exact ⟨rfl, rfl⟩

/-- where a row of type T with n cells holds a strings.Builder at o -/
def Fits (T n o : Nat) : Prop := T ≠ 5 ∧ liesAt Tryz.prog Tryz.prog.depth T (n / Tryz.prog.cellsOf T) o 85 1 = true

theorem bld_copyCheck (T B b o : Nat) (C : Array Value) (g : Option Nat) (bs : List Value) (w : World) (hf : Fits T C.size o) (h : Bld T B b o C g bs w) :
    Calls Tryz.prog 74 #[.pointer (some ⟨b, o, none⟩)] w fun e w' => e = .returned (.tuple #[]) ∧
      Bld T B b o (C.setIfInBounds o (.pointer (some ⟨b, o, none⟩))) g bs w' ∧ Kept (fun k => k = b) w w' := by
  have hs := h.size
  have hself : C[o]? = some (.pointer (some ⟨b, o, none⟩)) → C.setIfInBounds o (.pointer (some ⟨b, o, none⟩)) = C := by
    intro hc
    apply Array.ext_getElem?
    intro i
    by_cases hi : i = o
    · subst hi; rw [arr_get_set _ (by omega), hc]
    · rw [Array.getElem?_setIfInBounds_ne (by omega)]
  rcases h.c0 with h0 | h0
  · refine (bld_copyCheck_fresh T b o C.size w (by rw [Lib.cell_of_heap h.blk]; exact h0) (by simp [World.shape?, h.blk]) (by omega) hf.2 (Lib.frozen_of_heap h.blk o)).mono ?_
    rintro e w' ⟨rfl, rfl⟩
    refine ⟨rfl, ?_, (Kept.refl (fun k => k = b) w).setCell (p := ⟨b, o, none⟩) (fun _ => rfl) _⟩
    obtain ⟨v, hv, ho, hvg⟩ := h.buf
    refine ⟨h.base, heap_setCell_same w b o C T _ h.blk, .inr (arr_get_set _ (by omega)), v, ?_, ?_, hvg⟩
    · rw [Array.getElem?_setIfInBounds_ne (by omega)]; exact hv
    · exact ho.kept (row := some b) ⟨rfl, rfl, rfl, by simp [World.setCell], fun k _ hk => Below.heap_setCell _ _ _ _ (fun e => hk (by simp [e]))⟩ (Or.inr (by rw [hvg]; exact h.gne hf.1))
  · refine (bld_copyCheck_used b o w (by rw [Lib.cell_of_heap h.blk]; exact h0)).mono ?_
    rintro e w' ⟨rfl, rfl⟩
    exact ⟨rfl, by rw [hself h0]; exact h, Kept.refl _ _⟩

/-! ### Len, WriteString, String -/
set_option maxHeartbeats 1000000 in
set_option maxRecDepth 100000 in
theorem bld_Len (T B b o : Nat) (C : Array Value) (g : Option Nat) (bs : List Value) (w : World) (h : Bld T B b o C g bs w) :
    Calls Tryz.prog 49 #[.pointer (some ⟨b, o, none⟩)] w fun e w' => e = .returned (.int .i64 bs.length) ∧ w = w' := by
  obtain ⟨v, hv, ho, _⟩ := h.buf
  obtain ⟨ao, cap, rfl⟩ : ∃ ao cap, v = .slice ao bs.length cap := by
    rcases ho.2 with ⟨hv, h0⟩ | ⟨g, cap, cur, fz, hv, _⟩
    · exact ⟨none, 0, by rw [hv, h0]⟩
    · exact ⟨_, _, hv⟩
  have c1 : w.cell? ⟨b, o + 1, none⟩ = some (.slice ao bs.length cap) := by rw [Lib.cell_of_heap h.blk]; exact hv
  clear h hv ho
  go_enter Tryz.func49, Tryz.ntmps49
  go_wp2
  go_ret
  exact ⟨rfl, rfl⟩

set_option maxHeartbeats 2000000 in
set_option maxRecDepth 100000 in
theorem bld_WriteString (T B b o : Nat) (C : Array Value) (g : Option Nat) (bs : List Value) (s : ByteArray) (w : World) (hf : Fits T C.size o) (h : Bld T B b o C g bs w)
    (hlen : bs.length + s.size ≤ 140737488355328) (hBw : B ≤ w.heap.size) :
    Calls Tryz.prog 47 #[.pointer (some ⟨b, o, none⟩), .string s] w fun e w' => e = .returned (.tuple #[.int .i64 s.size, .nilIface]) ∧
      ∃ v g', Bld T B b o ((C.setIfInBounds o (.pointer (some ⟨b, o, none⟩))).setIfInBounds (o + 1) v) g' (bs ++ Lib.strCells s) w' ∧ Kept (fun k => k = b ∨ g = some k) w w' ∧
        (g' = g ∨ ∀ k, g' = some k → w.heap.size ≤ k) := by
  obtain ⟨i0, hi, hz0, hz1, hz2⟩ := info_parts Tryz.byte_info
  have hT := hf.1
  go_enter Tryz.func47, Tryz.ntmps47
  go_wp2_with (go_at_call 74; refine (bld_copyCheck T B b o C g bs _ hf h).mono ?_)
  rintro e w1 ⟨rfl, h1, hk1⟩
  have hs := h.size
  obtain ⟨v, hv, hown, hvg⟩ := h1.buf
  have hgne := h1.gne hT
  have c1 : w1.cell? ⟨b, o + 1, none⟩ = some v := by rw [Lib.cell_of_heap h1.blk]; exact hv
  have HC := Lib.hid hk1
  have H1 := Lib.hid h1
  have HV := Lib.hid hvg
  have HVV := Lib.hid hv
  clear hk1 h1 hvg hv
  go_wp2_with (at_builtin; refine wpList_append_str _ rfl _ _ 63 9 rfl B 5 i0 Tryz.underlying63 Tryz.underlying9 hi hz0 hz1 hz2 _ _ _ rfl hown s rfl ?c3 ?c4 ?c5 ?_)
  case c3 => unfold maxLen; omega
  case c4 => omega
  case c5 => have := HC.out.size; omega
  intro v' w2 hown' hgrow hat
  have hb2 : w2.heap[b]? = some (.cells (C.setIfInBounds o (.pointer (some ⟨b, o, none⟩))) T (0, 0)) := by
    rw [hgrow.block b H1.out.lt (fun e => hgne (HV.out ▸ e.symm))]
    exact H1.out.blk
  have d1 : w2.cell? ⟨b, o + 1, none⟩ = some v := by rw [Lib.cell_of_heap hb2]; exact HVV.out
  have f1 : w2.frozen? ⟨b, o + 1, none⟩ = false := Lib.frozen_of_heap hb2 _
  have HN := Lib.hid hat
  clear hat
  obtain ⟨ao, n', cap, rfl⟩ : ∃ ao n' cap, v' = .slice ao n' cap := by
    rcases hown'.2 with ⟨hv, _⟩ | ⟨g, cap, cur, fz, hv, _⟩
    · exact ⟨_, _, _, hv⟩
    · exact ⟨_, _, _, hv⟩
  have HB := Lib.hid hb2
  have HO := Lib.hid hown'
  have HG := Lib.hid hgrow
  clear hb2 hown' hgrow
  go_wp2
  go_ret2
  refine ⟨rfl, .slice ao n' cap, (Value.slice ao n' cap).ownBlock, ?_, ?_, HN.out.imp (fun x => x.trans HV.out) (fun x k hk => Nat.le_trans HC.out.size (x k hk))⟩
  · refine ⟨H1.out.base, heap_setCell_same w2 b (o + 1) _ T _ HB.out, ?_, _, arr_get_set _ (by simpa using hs), ?_, rfl⟩
    · rw [Array.getElem?_setIfInBounds_ne (by omega)]; exact .inr (arr_get_set _ (by omega))
    · have hne := Lib.ownBlock_neF HO.out HB.out hT
      have hlen' : (bs ++ Lib.strCells s).length = bs.length + s.size := by simp [Lib.strCells_length]
      rw [hlen']
      exact HO.out.kept (row := some b) ⟨rfl, rfl, rfl, by simp [World.setCell], fun k _ hk => Below.heap_setCell _ _ _ _ (fun e => hk (by simp [e]))⟩ (Or.inr hne)
  · refine (((HC.out.mono (fun i _ e => Or.inl e)).grown HG.out (fun k _ e => Or.inr (HV.out ▸ e)))).setCell (p := ⟨b, o + 1, none⟩) (fun _ => Or.inl rfl) _
/-- (*strings.Builder).String of a builder that holds at least one byte: the bytes that the string shares are frozen in the buffer's row. -/
theorem Bld.froze {T : TypeId} {B b o : Nat} {C : Array Value} {gb : Nat} {bs : List Value} {w : World} (h : Bld T B b o C (some gb) bs w) (hT : T ≠ 5) :
    Bld T B b o C (some gb) bs (w.freeze ⟨gb, 0, none⟩ bs.length) ∧ Kept (fun k => some gb = some k) w (w.freeze ⟨gb, 0, none⟩ bs.length) := by
  have hne := h.gne hT
  obtain ⟨v, hv, hown, hvg⟩ := h.buf
  unfold World.freeze
  split
  · exact ⟨h, Kept.refl _ _⟩
  · rename_i hn0
    refine ⟨⟨h.base, ?_, h.c0, v, hv, ⟨hown.1, ?_⟩, hvg⟩, ⟨rfl, rfl, rfl, by simp, fun k _ hk => ?_⟩⟩
    · simp only [Array.getElem?_modify]
      rw [if_neg (fun e => hne (by rw [e]))]
      exact h.blk
    · rcases hown.2 with ⟨hv, _⟩ | ⟨g', cap', cur, fz, hv, hbg, hg, hfz, rest⟩
      · subst hv; simp [Value.ownBlock] at hvg
      · subst hv
        simp only [Value.ownBlock, Option.some.injEq] at hvg
        subst hvg
        obtain ⟨lo, hi⟩ := fz
        refine .inr ⟨g', _, cur, (if lo == hi then (0, 0 + bs.length) else (min lo 0, max hi (0 + bs.length))), rfl, hbg, ?_, ?_, rest⟩
        · simp [Array.getElem?_modify, hg]
        · simp only at hfz
          split <;> simp <;> omega
    · simp only [Array.getElem?_modify]
      rw [if_neg (fun e => hk (by rw [e]))]

set_option maxHeartbeats 1000000 in
set_option maxRecDepth 100000 in
theorem bld_String_some (T B b o : Nat) (C : Array Value) (g : Option Nat) (l : List UInt8) (w : World) (hT : T ≠ 5) (h : Bld T B b o C g (Lib.byteCells l) w) (h0 : l ≠ []) :
    Calls Tryz.prog 50 #[.pointer (some ⟨b, o, none⟩)] w fun e w' => e = .returned (.string ⟨l.toArray⟩) ∧ Bld T B b o C g (Lib.byteCells l) w' ∧ Kept (fun k => g = some k) w w' := by
  obtain ⟨v, hv, hown, hvg⟩ := h.buf
  have hl0 : l.length ≠ 0 := by simpa using h0
  rw [Lib.byteCells_length] at hown
  obtain ⟨gb, cap, cur, fz, rfl, hbg, hg, hfz, hnc, hcm, hcs, htake⟩ : ∃ g cap cur fz, v = .slice (some ⟨g, 0, none⟩) l.length cap ∧ B ≤ g ∧ w.heap[g]? = some (.cells cur 5 fz) ∧ fz.2 ≤ l.length * 1 ∧ l.length ≤ cap ∧ cap ≤ maxLen ∧ cur.size = cap * 1 ∧ cur.toList.take (l.length * 1) = Lib.byteCells l := by
    rcases hown.2 with ⟨_, hz⟩ | ⟨g, cap, cur, fz, hv, r⟩
    · exact absurd hz hl0
    · exact ⟨g, cap, cur, fz, hv, r⟩
  simp only [Value.ownBlock] at hvg
  subst hvg
  have c1 : w.drew.cell? ⟨b, o + 1, none⟩ = some (.slice (some ⟨gb, 0, none⟩) l.length cap) := by
    have : w.drew.heap[b]? = some (.cells C T (0, 0)) := h.blk
    rw [Lib.cell_of_heap this]; exact hv
  have hSD : (Builtin.unsafeSliceData_ #[63] 114 #[.slice (some ⟨gb, 0, none⟩) l.length cap]).run Tryz.prog w.drew = .ok (.pointer (some ⟨gb, 0, none⟩)) w.drew :=
    Lib.run_unsafeSliceData_row _ _ _ _ _ _ (by omega)
  have hUS : (Builtin.unsafeString_ #[114, 3] 9 #[.pointer (some ⟨gb, 0, none⟩), .int .i64 l.length]).run Tryz.prog w.drew = .ok (.string ⟨l.toArray⟩) (w.drew.freeze ⟨gb, 0, none⟩ l.length) := by
    refine Lib.run_unsafeString_row w.drew 114 3 9 5 Tryz.underlying114 Tryz.byte_cells gb cur.size (by have hg' : w.drew.heap[gb]? = some (.cells cur 5 fz) := hg; simp [World.shape?, hg']) l h0 (by omega) (by unfold maxLen at hcm; omega) ?_
    intro j x hx
    have := hown.cells (g := gb) rfl j (.int .u8 x.toNat) (by simp [Lib.byteCells, hx])
    exact this
  have hkeep := h.drew.froze hT
  rw [Lib.byteCells_length] at hkeep
  have HK := Lib.hid hkeep
  have HB := Lib.hid h
  clear hkeep h hv hown hg hfz hnc hcm hcs htake hl0 h0
  go_enter Tryz.func50, Tryz.ntmps50
  go_wp2
  go_region
  all_goals (go_wp2; go_ret; exact ⟨rfl, HK.out.1, (Kept.refl _ w).drew.trans HK.out.2 (fun _ _ => id)⟩)

theorem Tryz.unsafeString_none (w : World) : (Builtin.unsafeString_ #[114, 3] 9 #[.pointer none, .int .i64 0]).run Tryz.prog w = .ok (.string ⟨#[]⟩) w := by kernel_rfl
theorem Tryz.unsafeString_zero (w : World) (a : Addr) : (Builtin.unsafeString_ #[114, 3] 9 #[.pointer (some a), .int .i64 0]).run Tryz.prog w = .ok (.string ⟨#[]⟩) w := by kernel_rfl

set_option maxHeartbeats 1000000 in
set_option maxRecDepth 100000 in
theorem bld_String_nil (T B b o : Nat) (C : Array Value) (g : Option Nat) (w : World) (h : Bld T B b o C g [] w) (hv : C[o + 1]? = some (.slice none 0 0)) :
    Calls Tryz.prog 50 #[.pointer (some ⟨b, o, none⟩)] w fun e w' => e = .returned (.string ⟨#[]⟩) ∧ Bld T B b o C g [] w' ∧ Kept (fun k => g = some k) w w' := by
  have hUS := Tryz.unsafeString_none
  have c1 : w.drew.cell? ⟨b, o + 1, none⟩ = some (.slice none 0 0) := by
    have : w.drew.heap[b]? = some (.cells C T (0, 0)) := h.blk
    rw [Lib.cell_of_heap this]; exact hv
  have hSD : (Builtin.unsafeSliceData_ #[63] 114 #[.slice none 0 0]).run Tryz.prog w.drew = .ok (.pointer none) w.drew := rfl
  have HB := Lib.hid h
  clear h hv
  go_enter Tryz.func50, Tryz.ntmps50
  go_wp2
  go_region
  all_goals (go_wp2; go_ret; exact ⟨rfl, HB.out.drew, (Kept.refl _ w).drew⟩)

set_option maxHeartbeats 1000000 in
set_option maxRecDepth 100000 in
theorem bld_String_noroom (T B b o : Nat) (C : Array Value) (gb : Nat) (cur : Array Value) (fz : Nat × Nat) (w : World) (h : Bld T B b o C (some gb) [] w) (hg : w.heap[gb]? = some (.cells cur 5 fz)) (hv : C[o + 1]? = some (.slice (some ⟨gb, 0, none⟩) 0 0)) :
    Calls Tryz.prog 50 #[.pointer (some ⟨b, o, none⟩)] w fun e w' => e = .returned (.string ⟨#[]⟩) ∧ Bld T B b o C (some gb) [] w' ∧ Kept (fun k => some gb = some k) w w' := by
  have hUS := Tryz.unsafeString_zero
  have hlt := h.lt
  have c1 : w.drew.cell? ⟨b, o + 1, none⟩ = some (.slice (some ⟨gb, 0, none⟩) 0 0) := by
    have : w.drew.heap[b]? = some (.cells C T (0, 0)) := h.blk
    rw [Lib.cell_of_heap this]; exact hv
  have hSD : (Builtin.unsafeSliceData_ #[63] 114 #[.slice (some ⟨gb, 0, none⟩) 0 0]).run Tryz.prog w.drew = .ok (.pointer (some ⟨w.drew.heap.size, 0, none⟩)) (w.drew.alloc (.view ⟨gb, 0, none⟩ 5)) :=
    Lib.run_unsafeSliceData_zero w.drew _ _ 5 Tryz.underlying114 ⟨gb, 0, none⟩ 0 (5, cur.size) (by have hg' : w.drew.heap[gb]? = some (.cells cur 5 fz) := hg; simp [World.shape?, hg'])
  have c2 : (w.drew.alloc (.view ⟨gb, 0, none⟩ 5)).cell? ⟨b, o + 1, none⟩ = some (.slice (some ⟨gb, 0, none⟩) 0 0) := by
    have : (w.drew.alloc (.view ⟨gb, 0, none⟩ 5)).heap[b]? = _ := (Lib.alloc_old w.drew _ b hlt).trans h.blk
    rw [Lib.cell_of_heap this]; exact hv
  have c3 : (w.alloc (.view ⟨gb, 0, none⟩ 5)).drew.cell? ⟨b, o + 1, none⟩ = some (.slice (some ⟨gb, 0, none⟩) 0 0) := c2
  have c0 : w.cell? ⟨b, o + 1, none⟩ = some (.slice (some ⟨gb, 0, none⟩) 0 0) := c1
  have HB := Lib.hid h
  clear h hv hg
  go_enter Tryz.func50, Tryz.ntmps50
  go_wp2
  go_region
  all_goals (go_wp2; go_ret; exact ⟨rfl, HB.out.drew.alloc _, (Kept.refl _ w).drew.alloc _⟩)

set_option maxHeartbeats 1000000 in
set_option maxRecDepth 100000 in
theorem bld_String_room (T B b o : Nat) (C : Array Value) (gb cap : Nat) (w : World) (hc0 : cap ≠ 0) (h : Bld T B b o C (some gb) [] w) (hv : C[o + 1]? = some (.slice (some ⟨gb, 0, none⟩) 0 cap)) :
    Calls Tryz.prog 50 #[.pointer (some ⟨b, o, none⟩)] w fun e w' => e = .returned (.string ⟨#[]⟩) ∧ Bld T B b o C (some gb) [] w' ∧ Kept (fun k => some gb = some k) w w' := by
  have hUS := Tryz.unsafeString_zero
  have c1 : w.drew.cell? ⟨b, o + 1, none⟩ = some (.slice (some ⟨gb, 0, none⟩) 0 cap) := by
    have : w.drew.heap[b]? = some (.cells C T (0, 0)) := h.blk
    rw [Lib.cell_of_heap this]; exact hv
  have hSD : (Builtin.unsafeSliceData_ #[63] 114 #[.slice (some ⟨gb, 0, none⟩) 0 cap]).run Tryz.prog w.drew = .ok (.pointer (some ⟨gb, 0, none⟩)) w.drew :=
    Lib.run_unsafeSliceData_row _ _ _ _ _ _ hc0
  have HB := Lib.hid h
  clear hc0 h hv
  go_enter Tryz.func50, Tryz.ntmps50
  go_wp2
  go_region
  all_goals (go_wp2; go_ret; exact ⟨rfl, HB.out.drew, (Kept.refl _ w).drew⟩)

/-- (*strings.Builder).String, whatever the builder holds. -/
theorem bld_String (T B b o : Nat) (C : Array Value) (g : Option Nat) (l : List UInt8) (w : World) (hT : T ≠ 5) (h : Bld T B b o C g (Lib.byteCells l) w) :
    Calls Tryz.prog 50 #[.pointer (some ⟨b, o, none⟩)] w fun e w' => e = .returned (.string ⟨l.toArray⟩) ∧ Bld T B b o C g (Lib.byteCells l) w' ∧ Kept (fun k => g = some k) w w' := by
  by_cases h0 : l = []
  · subst h0
    obtain ⟨v, hv, hown, hvg⟩ := h.buf
    rcases hown.2 with ⟨rfl, _⟩ | ⟨gb, cap, cur, fz, rfl, hbg, hg, _, _, _, _, _⟩
    · exact bld_String_nil T B b o C g w h hv
    · simp only [Value.ownBlock] at hvg
      subst hvg
      by_cases hc0 : cap = 0
      · subst hc0
        exact bld_String_noroom T B b o C gb cur fz w h hg hv
      · exact bld_String_room T B b o C gb cap w hc0 h hv
  · exact bld_String_some T B b o C g l w hT h h0
theorem Bld.drewN {T : TypeId} {B b o : Nat} {C : Array Value} {g : Option Nat} {bs : List Value} {w : World} (h : Bld T B b o C g bs w) (n : Nat) : Bld T B b o C g bs (w.drewN n) := h.kept (F := fun _ => False) ((Kept.refl _ _).drewN n) id (fun _ _ => id)
theorem quiet_left {P : Program} {f : FuncId} {args : Array Value} {w : World} {n : Nat} {v : Value}
    (h : Calls P f args (w.drewN n) fun e w' => e = .returned v ∧ w.drewN n = w') : Calls P f args (w.drewN n) fun e w'' => e = .returned v ∧ ∃ m, w'' = w.drewN m :=
  h.mono fun _ _ ⟨he, hm⟩ => ⟨he, n, hm.symm⟩
theorem quiet_add_left {P : Program} {f : FuncId} {args : Array Value} {w : World} {a n : Nat} {v : Value}
    (h : Calls P f args (w.drewN (a + n)) fun e w' => e = .returned v ∧ w.drewN (a + n) = w') :
    Calls P f args (w.drewN (a + n)) fun e w'' => e = .returned v ∧ ∃ m, w'' = w.drewN (a + m) :=
  h.mono fun _ _ ⟨he, hm⟩ => ⟨he, n, hm.symm⟩
end Go.Proofs.YteecmcphbehfgaaGreatDoor
