/- Whole arrays and structs by value, as the walks meet them: a load, a store, a build, '==' of arrays of bytes, without opening their cells.
   Conditions: none; plain definitions and lemmas. -/
import Derived.Test.YtoeapcfnbomlgaaMem
import Derived.ChangeKeysEq
namespace Go.Proofs.Ytoeapcfnbomlgaa
open Go.RowKit

def isPtr : Value → Bool
  | .pointer (some _) => true
  | _ => false
def addrOf : Value → Addr
  | .pointer (some a) => a
  | _ => default
theorem isPtr_some (a : Addr) : isPtr (.pointer (some a)) = true := Eq.trans rfl rfl
theorem addrOf_some (a : Addr) : addrOf (.pointer (some a)) = a := Eq.trans rfl rfl

/-- The n cells from address a on. -/
def aggAt (w : World) (a : Addr) (n : Nat) : List Value := (List.range n).map fun i => (w.cell? (a.add i)).getD undef
def hasAt (w : World) (a : Addr) (n : Nat) : Prop := ∀ i, i < n → (w.cell? (a.add i)).isSome = true

theorem run_load_op {P : Program} (w : World) (ev : Operand → Value) (dst : Option Tmp) (ty : TypeId) (x : Operand) (type : TypeId) (pos : String) (after : Array Edge) (guard : Option (Nat × Bool)) (n : Nat) (d : TypeDesc)
    (hu : P.underlying ty = some d) (hd : d.isRow = true) (hi : (P.info? ty).map (·.size) = some n) (h1 : isPtr (ev x) = true) (h2 : hasAt w (addrOf (ev x)) n) :
    (execOp ev ⟨dst, .load ty x, type, pos, after, guard⟩).run P w = .ok (.value (.agg (aggAt w (addrOf (ev x)) n).toArray)) w := by
  generalize hv : ev x = v at h1 h2 ⊢
  cases v with
  | pointer a =>
    cases a with
    | none => cases h1
    | some a =>
      simp only [addrOf] at h2 ⊢
      have hl : (loadCells a n).run P w = .ok (aggAt w a n).toArray w := by
        have hlen : n = (aggAt w a n).length := by simp [aggAt]
        have := run_loadCells_list (P := P) w a (aggAt w a n) (fun j v hv => by
          simp only [aggAt, List.getElem?_map] at hv
          have hj : j < n := by
            by_cases hj : j < n
            · exact hj
            · simp [List.getElem?_eq_none (show (List.range n).length ≤ j by simp; omega)] at hv
          rw [List.getElem?_range hj] at hv
          simp only [Option.map_some, Option.some.injEq] at hv
          subst hv
          have := h2 j hj
          cases hc : w.cell? (a.add j) with
          | none => simp [hc] at this
          | some v => rfl)
        rwa [← hlen] at this
      cases hq : P.info? ty with
      | none => simp [hq] at hi
      | some i =>
        have hs : i.size = n := by simpa [hq] using hi
        have hagg : (isAgg ty).run P w = .ok true w := by
          unfold isAgg
          rw [Sem.run_bind, run_underlying hu w]
          cases d <;> simp_all
        unfold execOp
        simp [hv, Instr.loadAt, Instr.sureAddr, loadVar, Sem.run_bind, hagg, sizeOf, typeInfo, hq, hs, hl]
  | _ => cases h1

/-- What is stored where a whole variable of n cells lies. -/
def putAgg (w : World) (a : Addr) (cs : List Value) : World := w.setCells a.block a.off cs
def canPut (w : World) (a : Addr) (n : Nat) : Prop := a.spot = none ∧ w.there a.block a.off n
def isAggOf (v : Value) (n : Nat) : Prop := ∃ cs : Array Value, v = .agg cs ∧ cs.size = n ∧ cs.all (·.oneCell') = true

theorem run_store_op {P : Program} (w : World) (ev : Operand → Value) (dst : Option Tmp) (ty : TypeId) (x y : Operand) (type : TypeId) (pos : String) (after : Array Edge) (guard : Option (Nat × Bool)) (n : Nat)
    (hi : (P.info? ty).map (·.size) = some n) (h1 : isPtr (ev x) = true) (h2 : canPut w (addrOf (ev x)) n) (h3 : isAggOf (ev y) n) :
    (execOp ev ⟨dst, .store ty x y, type, pos, after, guard⟩).run P w = .ok .skip (putAgg w (addrOf (ev x)) (ev y).cells.toList) := by
  generalize hv : ev x = v at h1 h2 ⊢
  generalize hz : ev y = z at h3 ⊢
  obtain ⟨cs, rfl, hsz, hone⟩ := h3
  cases v with
  | pointer a =>
    cases a with
    | none => cases h1
    | some a =>
      simp only [addrOf] at h2 ⊢
      obtain ⟨b, o, sp⟩ := a
      obtain ⟨rfl, ht⟩ := h2
      have := run_storeVar_mid (P := P) w b o ty cs (by rw [hsz]; exact ht) (by rw [hsz]; exact hi) hone
      unfold execOp
      simp [hv, hz, Instr.storeAt, Instr.sureAddr, this, putAgg, Value.cells]
  | _ => cases h1
/-! ### '==' of two arrays of bytes -/
def bytesOf : Value → List UInt8
  | .agg cs => cs.toList.map fun | .int _ k => k.toNat.toUInt8 | _ => 0
  | _ => []
def isBytes (v : Value) (n : Nat) : Prop := ∃ l : List UInt8, v = .agg (Lib.byteCells l).toArray ∧ l.length = n
theorem bytesOf_mk (l : List UInt8) : bytesOf (.agg (Lib.byteCells l).toArray) = l := by
  simp only [bytesOf, Lib.byteCells, List.map_map]
  rw [show ((fun | .int _ k => k.toNat.toUInt8 | _ => 0 : Value → UInt8) ∘ fun b : UInt8 => Value.int .u8 b.toNat) = id from funext fun b => by simp]
  simp
theorem isBytes_mk {l : List UInt8} {n : Nat} (h : l.length = n) : isBytes (.agg (Lib.byteCells l).toArray) n := ⟨l, rfl, h⟩

theorem run_eqItems_bytes {P : Program} (w : World) (d : Nat) {e : TypeId} (he : P.underlying e = some (.int .u8)) (la lb : List UInt8) (hl : la.length = lb.length) :
    ∀ (m k : Nat), k + m = la.length → (Op.eqItems (d + 1) e 1 (Lib.byteCells la).toArray (Lib.byteCells lb).toArray (List.range' k m)).run P w = .ok (la.drop k == lb.drop k) w
  | 0, k, h => by
    rw [List.drop_eq_nil_of_le (by omega), List.drop_eq_nil_of_le (by omega)]
    simp [Op.eqItems]
  | m + 1, k, h => by
    have ih := run_eqItems_bytes w d he la lb hl m (k + 1) (by omega)
    have ha : k < la.length := by omega
    have hb : k < lb.length := by omega
    have pa : ∀ (l : List UInt8) (h : k < l.length), (part e (Lib.byteCells l).toArray (k * 1)).run P w = .ok (.int .u8 (l[k]).toNat) w := by
      intro l h
      have hagg : (isAgg e).run P w = .ok false w := by
        unfold isAgg
        rw [Sem.run_bind, run_underlying he w]
        simp
      simp [part, hagg, Sem.run_bind, h, Lib.byteCells]
    have heq : (Op.equalIn (d + 1) e (.int .u8 (la[k]).toNat) (.int .u8 (lb[k]).toNat)).run P w = .ok (((la[k]).toNat : Int) == (lb[k]).toNat) w := run_equalIn_int w d e _ _ _ _ he
    rw [List.range'_succ]
    simp only [Op.eqItems, Sem.run_bind, pa la ha, pa lb hb, heq, Result.andThen_ok]
    have ea : la.drop k = la[k] :: la.drop (k + 1) := List.drop_eq_getElem_cons ha
    have eb : lb.drop k = lb[k] :: lb.drop (k + 1) := List.drop_eq_getElem_cons hb
    rw [ea, eb, List.cons_beq_cons]
    by_cases hx : la[k] = lb[k]
    · simp [hx, ih]
    · have hx' : ((la[k]).toNat : Int) ≠ (lb[k]).toNat := by
        intro e; apply hx; apply UInt8.toNat_inj.1; omega
      have hx2 : (((la[k]).toNat : Int) == (lb[k]).toNat) = false := by simp [hx']
      have hx3 : (la[k] == lb[k]) = false := by simp [hx]
      simp [hx2, hx3]

theorem run_equal_bytes {P : Program} (w : World) (d : Nat) {t e : TypeId} {n : Nat} {i : TypeInfo} (hu : P.underlying t = some (.array n e)) (he : P.underlying e = some (.int .u8)) (hi : P.info? e = some i) (hc : P.cellsOf e = 1)
    (la lb : List UInt8) (ha : la.length = n) (hb : lb.length = n) :
    (Op.equalIn (d + 1 + 1) t (.agg (Lib.byteCells la).toArray) (.agg (Lib.byteCells lb).toArray)).run P w = .ok (la == lb) w := by
  rw [run_equalIn_array w (d + 1) _ _ hu hi, hc, List.range_eq_range', run_eqItems_bytes w d he la lb (by omega) n 0 (by omega)]
  simp

theorem run_eqOp_bytes {P : Program} (w : World) (ev : Operand → Value) (dst : Option Tmp) (t t' e : TypeId) (x y : Operand) (type : TypeId) (pos : String) (after : Array Edge) (guard : Option (Nat × Bool)) (n : Nat) (i : TypeInfo)
    (hu : P.underlying t = some (.array n e)) (he : P.underlying e = some (.int .u8)) (hi : P.info? e = some i) (hc : P.cellsOf e = 1) (hm : P.eqGuardType P.depth t = false)
    (h1 : isBytes (ev x) n) (h2 : isBytes (ev y) n) :
    (execOp ev ⟨dst, .binOp .eql t x y t', type, pos, after, guard⟩).run P w = .ok (.value (.bool (bytesOf (ev x) == bytesOf (ev y)))) w := by
  obtain ⟨la, hx, ha⟩ := h1
  obtain ⟨lb, hy, hb⟩ := h2
  unfold execOp
  simp [hx, hy, Sem.run_bind, run_eqGuard_agg _ _ _ _ _ _ _ hm, run_eql_struct, run_equal_bytes w 9998 hu he hi hc la lb ha hb, bytesOf_mk]
theorem run_neOp_bytes {P : Program} (w : World) (ev : Operand → Value) (dst : Option Tmp) (t t' e : TypeId) (x y : Operand) (type : TypeId) (pos : String) (after : Array Edge) (guard : Option (Nat × Bool)) (n : Nat) (i : TypeInfo)
    (hu : P.underlying t = some (.array n e)) (he : P.underlying e = some (.int .u8)) (hi : P.info? e = some i) (hc : P.cellsOf e = 1) (hm : P.eqGuardType P.depth t = false)
    (h1 : isBytes (ev x) n) (h2 : isBytes (ev y) n) :
    (execOp ev ⟨dst, .binOp .neq t x y t', type, pos, after, guard⟩).run P w = .ok (.value (.bool (!(bytesOf (ev x) == bytesOf (ev y))))) w := by
  obtain ⟨la, hx, ha⟩ := h1
  obtain ⟨lb, hy, hb⟩ := h2
  unfold execOp
  simp [hx, hy, Sem.run_bind, run_eqGuard_agg _ _ _ _ _ _ _ hm, run_neq_struct, run_equal_bytes w 9998 hu he hi hc la lb ha hb, bytesOf_mk]

/-! ### build of a struct -/
def splice (C : List Value) (off : Nat) (V : List Value) : List Value := C.take off ++ V ++ C.drop (off + V.length)
theorem foldl_splice : ∀ (V : List Value) (k off : Nat) (C : Array Value), off + k + V.length ≤ C.size →
    (V.zipIdx k).foldl (fun cs (x : Value × Nat) => cs.setIfInBounds (off + x.2) x.1) C = (splice C.toList (off + k) V).toArray
  | [], k, off, C, h => by simp [splice]
  | v :: V, k, off, C, h => by
    have hl : off + k < C.size := by simp at h; omega
    simp only [List.zipIdx_cons, List.foldl_cons]
    rw [foldl_splice V (k + 1) off _ (by simp at h ⊢; omega)]
    congr 1
    simp only [splice, Array.toList_setIfInBounds, List.length_cons]
    have e1 : (C.toList.set (off + k) v).take (off + (k + 1)) = C.toList.take (off + k) ++ [v] := by
      rw [← Nat.add_assoc, List.take_succ_eq_append_getElem (by simpa using hl), List.take_set_of_le (Nat.le_refl _)]
      simp
    have e2 : (C.toList.set (off + k) v).drop (off + (k + 1) + V.length) = C.toList.drop (off + k + (V.length + 1)) := by
      rw [List.drop_set_of_lt (by omega)]
      congr 1
      omega
    rw [e1, e2]
    simp

theorem fill_step (place : Nat → Option (Nat × Nat)) (C : List Value) (i off : Nat) (v : Value) (rest : List (Nat × Value)) (hp : place i = some (off, v.cells.size)) (hs : off + v.cells.size ≤ C.length) :
    Instr.fill place C.toArray ((i, v) :: rest) = Instr.fill place (splice C off v.cells.toList).toArray rest := by
  simp only [Instr.fill, hp]
  rw [if_neg (by simp; omega)]
  congr 1
  have := foldl_splice v.cells.toList 0 off C.toArray (by simpa using hs)
  rw [Nat.add_zero] at this
  rw [← this, ← Array.foldl_toList, Array.toList_zipIdx]

theorem run_mapM_places {P : Program} (w : World) : ∀ (fs : List Field) (pl : List (Nat × Nat)), fs.mapM (fun f => (P.info? f.type).map fun i => (f.offset, i.size)) = some pl →
    (fs.mapM (fun f => (do pure (f.offset, ← sizeOf f.type) : Sem (Nat × Nat)))).run P w = .ok pl w
  | [], pl, h => by
    simp at h
    subst h
    simp
  | f :: fs, pl, h => by
    rw [List.mapM_cons] at h
    simp only [bind, Option.bind_eq_some_iff, Option.map_eq_some_iff, pure, Option.some.injEq] at h
    obtain ⟨_, ⟨i, hi, rfl⟩, pl', hpl', rfl⟩ := h
    have ih := run_mapM_places w fs pl' hpl'
    have hs : (sizeOf f.type).run P w = .ok i.size w := by simp [sizeOf, typeInfo, hi]
    simp only [List.mapM_cons, Sem.run_bind, hs, ih, Result.andThen_ok, Sem.run_pure]

theorem run_build_op {P : Program} (w : World) (ev : Operand → Value) (dst : Option Tmp) (T : TypeId) (parts : Array (Nat × Operand)) (type : TypeId) (pos : String) (after : Array Edge) (guard : Option (Nat × Bool))
    (fs : Array Field) (zero : Array Value) (pl : List (Nat × Nat)) (out : List Value)
    (hz : (P.info? T).map (·.zero) = some (some (.agg zero))) (hu : P.underlying T = some (.struct fs)) (hpl : fs.toList.mapM (fun f => (P.info? f.type).map fun i => (f.offset, i.size)) = some pl)
    (hfill : Instr.fill (fun i => pl[i]?) zero (parts.toList.map fun x => (x.1, ev x.2)) = some out.toArray) :
    (execOp ev ⟨dst, .build T parts, type, pos, after, guard⟩).run P w = .ok (.value (.agg out.toArray)) w := by
  have hzr : (zeroValue T).run P w = .ok (.agg zero) w := by
    cases hq : P.info? T with
    | none => simp [hq] at hz
    | some i =>
      simp [hq] at hz
      simp [zeroValue, typeInfo, hq, hz]
  have hm := run_mapM_places (P := P) w fs.toList pl hpl
  have hm' : (fs.mapM (fun f => (do pure (f.offset, ← sizeOf f.type) : Sem (Nat × Nat)))).run P w = .ok pl.toArray w := by
    rw [Array.mapM_eq_mapM_toList, Sem.run_map, hm]
    rfl
  have hfill' : Instr.fill (fun x => pl.toArray[x]?) zero (parts.map fun (i, x) => (i, ev x)).toList = some out.toArray := by simpa using hfill
  unfold execOp
  simp only [Instr.build, Sem.run_bind, hzr, Result.andThen_ok, run_underlying hu, Value.cells, hm', hfill', Sem.run_pure]
/-! ### what lies in a world that is written out -/
theorem aggAt_drew (w : World) (a : Addr) (n : Nat) : aggAt w.drew a n = aggAt w a n := Eq.trans rfl rfl
theorem aggAt_drewN (w : World) (k : Nat) (a : Addr) (n : Nat) : aggAt (w.drewN k) a n = aggAt w a n := Eq.trans rfl rfl
theorem hasAt_drew (w : World) (a : Addr) (n : Nat) : hasAt w.drew a n = hasAt w a n := Eq.trans rfl rfl
theorem hasAt_drewN (w : World) (k : Nat) (a : Addr) (n : Nat) : hasAt (w.drewN k) a n = hasAt w a n := Eq.trans rfl rfl
theorem add_block (a : Addr) (n : Nat) : (a.add n).block = a.block := by unfold Addr.add; split <;> rfl
theorem aggAt_block {w w' : World} {a : Addr} (h : w'.heap[a.block]? = w.heap[a.block]?) (n : Nat) : aggAt w' a n = aggAt w a n := by
  unfold aggAt
  congr 1
  funext i
  rw [World.cell?_of_block (a := a.add i) (w := w) (w' := w') (by rw [add_block]; exact h)]
theorem hasAt_block {w w' : World} {a : Addr} (h : w'.heap[a.block]? = w.heap[a.block]?) (n : Nat) : hasAt w' a n = hasAt w a n := by
  unfold hasAt
  apply propext
  constructor <;> intro g i hi
  · rw [← World.cell?_of_block (a := a.add i) (w := w) (w' := w') (by rw [add_block]; exact h)]; exact g i hi
  · rw [World.cell?_of_block (a := a.add i) (w := w) (w' := w') (by rw [add_block]; exact h)]; exact g i hi
theorem aggAt_alloc_old (w : World) (o : Obj) (a : Addr) (n : Nat) (h : a.block < w.heap.size) : aggAt (w.alloc o) a n = aggAt w a n := aggAt_block (Below.heap_alloc _ _ _ h) n
theorem hasAt_alloc_old (w : World) (o : Obj) (a : Addr) (n : Nat) (h : a.block < w.heap.size) : hasAt (w.alloc o) a n = hasAt w a n := hasAt_block (Below.heap_alloc _ _ _ h) n
theorem aggAt_setCell (w : World) (p : Addr) (u : Value) (a : Addr) (n : Nat) (h : a.block ≠ p.block) : aggAt (w.setCell p u) a n = aggAt w a n := aggAt_block (Below.heap_setCell _ _ _ _ h) n
theorem hasAt_setCell (w : World) (p : Addr) (u : Value) (a : Addr) (n : Nat) (h : a.block ≠ p.block) : hasAt (w.setCell p u) a n = hasAt w a n := hasAt_block (Below.heap_setCell _ _ _ _ h) n
/-- In a block that is known whole. -/
theorem aggAt_of {w : World} {b : Nat} {C : Array Value} {T : TypeId} {fr : Nat × Nat} (hb : w.heap[b]? = some (.cells C T fr)) (o n : Nat) (h : o + n ≤ C.size) :
    aggAt w ⟨b, o, none⟩ n = (C.toList.drop o).take n := by
  unfold aggAt
  apply List.ext_getElem?
  intro i
  by_cases hi : i < n
  · rw [List.getElem?_map, List.getElem?_range hi, Option.map_some, Addr.add_mid, Lib.cell_of_heap hb, List.getElem?_take_of_lt hi, List.getElem?_drop]
    rw [Array.getElem?_toList, Array.getElem?_eq_getElem (by omega)]
    rfl
  · rw [List.getElem?_eq_none (by simp; omega), List.getElem?_eq_none (by simp; omega)]
theorem hasAt_of {w : World} {b : Nat} {C : Array Value} {T : TypeId} {fr : Nat × Nat} (hb : w.heap[b]? = some (.cells C T fr)) (o n : Nat) (h : o + n ≤ C.size) : hasAt w ⟨b, o, none⟩ n := by
  intro i hi
  rw [Addr.add_mid, Lib.cell_of_heap hb, Array.getElem?_eq_getElem (by omega)]
  rfl
/-- n of the cells C, from o on -/
def sub (C : List Value) (o n : Nat) : List Value := (C.drop o).take n
theorem aggAt_new (w : World) (C : List Value) (T : TypeId) (b o n : Nat) (hb : b = w.heap.size) (h : o + n ≤ C.length) : aggAt (w.alloc (.cells C.toArray T)) ⟨b, o, none⟩ n = sub C o n := by
  subst hb
  exact aggAt_of (heap_alloc_new w _) o n (by simpa using h)
theorem hasAt_new (w : World) (C : List Value) (T : TypeId) (b o n : Nat) (hb : b = w.heap.size) (h : o + n ≤ C.length) : hasAt (w.alloc (.cells C.toArray T)) ⟨b, o, none⟩ n = True := by
  subst hb
  exact eq_true (hasAt_of (heap_alloc_new w _) o n (by simpa using h))
theorem canPut_new (w : World) (Z : Array Value) (T : TypeId) (b n : Nat) (hb : b = w.heap.size) (h : n ≤ Z.size) : canPut (w.alloc (.cells Z T)) ⟨b, 0, none⟩ n = True := by
  subst hb
  refine eq_true ⟨rfl, fun j hj => ?_⟩
  have hb := heap_alloc_new w (.cells Z T)
  refine ⟨?_, Lib.frozen_of_heap hb _⟩
  rw [Lib.cell_of_heap hb, Array.getElem?_eq_getElem (by simp; omega)]
  rfl
theorem setCells_row : ∀ (cs : List Value) (o : Nat) (w : World) (b : Nat) (Z : Array Value) (T : TypeId), w.heap[b]? = some (.cells Z T (0, 0)) → o + cs.length ≤ Z.size →
    w.setCells b o cs = w.setRow b (Z.toList.take o ++ cs ++ Z.toList.drop (o + cs.length)).toArray
  | [], o, w, b, Z, T, hb, h => by
    simp only [World.setCells, List.append_nil, List.length_nil, Nat.add_zero, List.take_append_drop, Array.toArray_toList]
    rw [setRow_self w b Z T (0, 0) hb]
  | c :: cs, o, w, b, Z, T, hb, h => by
    have ho : o < Z.size := by simp at h; omega
    simp only [World.setCells]
    rw [setCells_row cs (o + 1) _ b (Z.setIfInBounds o c) T (heap_setCell_same w b o Z T c hb) (by simp at h ⊢; omega), setCell_eq_setRow w b o Z T (0, 0) c hb, setRow_setRow]
    congr 2
    simp only [Array.toList_setIfInBounds, List.length_cons]
    have e1 : (Z.toList.set o c).take (o + 1) = Z.toList.take o ++ [c] := by
      rw [List.take_succ_eq_append_getElem (by simpa using ho), List.take_set_of_le (Nat.le_refl _)]
      simp
    have e2 : (Z.toList.set o c).drop (o + 1 + cs.length) = Z.toList.drop (o + (cs.length + 1)) := by
      rw [List.drop_set_of_lt (by omega)]
      congr 1
      omega
    rw [e1, e2]
    simp
theorem setRow_new (w : World) (Z C : Array Value) (T : TypeId) : (w.alloc (.cells Z T)).setRow w.heap.size C = w.alloc (.cells C T) := by
  unfold World.setRow World.alloc
  simp only [World.mk.injEq, and_true]
  apply Array.ext_getElem?
  intro i
  rw [Array.getElem?_modify, Array.getElem?_push, Array.getElem?_push]
  by_cases hi : w.heap.size = i
  · subst hi; simp
  · rw [if_neg hi, if_neg (fun e => hi e.symm), if_neg (fun e => hi e.symm)]
theorem putAgg_new (w : World) (Z : Array Value) (T : TypeId) (b : Nat) (cs : List Value) (hb : b = w.heap.size) (h : Z.size = cs.length) : putAgg (w.alloc (.cells Z T)) ⟨b, 0, none⟩ cs = w.alloc (.cells cs.toArray T) := by
  subst hb
  unfold putAgg
  rw [setCells_row cs 0 _ _ Z T (heap_alloc_new w _) (by omega), setRow_new]
  congr 3
  rw [List.drop_eq_nil_of_le (by simp; omega)]
  simp
theorem cells_agg (C : Array Value) : (Value.agg C).cells = C := Eq.trans rfl rfl
theorem isAggOf_mk (L : List Value) (n : Nat) (h : L.length = n) (h1 : L.all (·.oneCell') = true) : isAggOf (.agg L.toArray) n = True :=
  eq_true ⟨L.toArray, rfl, by simpa using h, by simpa using h1⟩
theorem byteCells_all (l : List UInt8) : (Lib.byteCells l).all (·.oneCell') = true := by
  simp [Lib.byteCells, Value.oneCell']
theorem cell_set_apart (w : World) (b o i : Nat) (u : Value) (h : i ≠ o) : (w.setCell ⟨b, i, none⟩ u).cell? ⟨b, o, none⟩ = w.cell? ⟨b, o, none⟩ :=
  World.cell?_setCell_other w _ _ u (fun e => h (congrArg Addr.off e))
theorem aggAt_set_apart (w : World) (b o i n : Nat) (u : Value) (h : o + n ≤ i ∨ i < o) : aggAt (w.setCell ⟨b, i, none⟩ u) ⟨b, o, none⟩ n = aggAt w ⟨b, o, none⟩ n := by
  unfold aggAt
  apply List.map_congr_left
  intro j hj
  rw [List.mem_range] at hj
  rw [Addr.add_mid, cell_set_apart _ _ _ _ _ (by omega)]
theorem hasAt_set_apart (w : World) (b o i n : Nat) (u : Value) (h : o + n ≤ i ∨ i < o) : hasAt (w.setCell ⟨b, i, none⟩ u) ⟨b, o, none⟩ n = hasAt w ⟨b, o, none⟩ n := by
  unfold hasAt
  apply propext
  constructor <;> intro g j hj <;> have k := g j hj <;> rw [Addr.add_mid] at k ⊢
  · rwa [cell_set_apart _ _ _ _ _ (by omega)] at k
  · rwa [cell_set_apart _ _ _ _ _ (by omega)]
theorem canPut_drew (w : World) (a : Addr) (n : Nat) : canPut w.drew a n = canPut w a n := Eq.trans rfl rfl
theorem canPut_drewN (w : World) (k : Nat) (a : Addr) (n : Nat) : canPut (w.drewN k) a n = canPut w a n := Eq.trans rfl rfl
theorem cell_set_some (w : World) (p q : Addr) (u : Value) : ((w.setCell p u).cell? q).isSome = (w.cell? q).isSome := by
  obtain ⟨b, o, s⟩ := p
  obtain ⟨b', o', s'⟩ := q
  simp only [World.cell?, World.setCell, Array.getElem?_modify]
  by_cases hb : b = b'
  · subst hb
    rw [if_pos rfl]
    cases hh : w.heap[b]? with
    | none => rfl
    | some ob =>
      cases ob <;> simp [Option.map_some] <;> (try rfl)
      cases s <;> cases s' <;> simp
      rw [Array.getElem?_setIfInBounds]
      split
      · rename_i e; subst e; split <;> simp_all
      · rfl
  · rw [if_neg hb]
theorem canPut_setCell (w : World) (p : Addr) (u : Value) (a : Addr) (n : Nat) : canPut (w.setCell p u) a n = canPut w a n := by
  unfold canPut World.there
  simp only [cell_set_some, World.frozen?_setCell]
theorem heap_setRow_other (w : World) (g k : Nat) (C : Array Value) (h : k ≠ g) : (w.setRow g C).heap[k]? = w.heap[k]? := setRow_other w g k C h
theorem putAgg_same {w : World} {b : Nat} {Z : Array Value} {T : TypeId} {cs : List Value} (hb : w.heap[b]? = some (.cells Z T (0, 0))) (h : Z.size = cs.length) : (putAgg w ⟨b, 0, none⟩ cs).heap[b]? = some (.cells cs.toArray T (0, 0)) := by
  unfold putAgg
  rw [setCells_row cs 0 _ _ Z T hb (by omega), setRow_heap w b Z _ T _ hb, List.drop_eq_nil_of_le (by simp; omega)]
  simp
theorem setCells_other : ∀ (cs : List Value) (w : World) (b o k : Nat), k ≠ b → (w.setCells b o cs).heap[k]? = w.heap[k]?
  | [], w, b, o, k, h => rfl
  | c :: cs, w, b, o, k, h => by
    rw [World.setCells, setCells_other cs _ b (o + 1) k h]
    exact Below.heap_setCell _ _ _ _ h
theorem putAgg_other {w : World} {a : Addr} {cs : List Value} {k : Nat} (h : k ≠ a.block) : (putAgg w a cs).heap[k]? = w.heap[k]? := setCells_other cs w _ _ _ h
theorem setCells_size : ∀ (cs : List Value) (w : World) (b o : Nat), (w.setCells b o cs).heap.size = w.heap.size
  | [], w, b, o => rfl
  | c :: cs, w, b, o => by
    rw [World.setCells, setCells_size cs _ b (o + 1)]
    simp [World.setCell]
theorem putAgg_size (w : World) (a : Addr) (cs : List Value) : (putAgg w a cs).heap.size = w.heap.size := setCells_size cs w _ _
theorem setCells_rest : ∀ (cs : List Value) (w : World) (b o : Nat), (w.setCells b o cs).os = w.os ∧ (w.setCells b o cs).tape = w.tape ∧ (w.setCells b o cs).output = w.output
  | [], w, b, o => ⟨rfl, rfl, rfl⟩
  | c :: cs, w, b, o => by
    rw [World.setCells]
    exact setCells_rest cs _ b (o + 1)
theorem Kept.putAgg {F : Nat → Prop} {w w1 : World} (h : Kept F w w1) {a : Addr} (ha : a.block < w.heap.size → F a.block) (cs : List Value) : Kept F w (putAgg w1 a cs) :=
  h.trans (G := fun k => k = a.block) ⟨(setCells_rest cs _ _ _).1, (setCells_rest cs _ _ _).2.1, (setCells_rest cs _ _ _).2.2, by rw [putAgg_size]; exact Nat.le_refl _, fun k _ hn => putAgg_other hn⟩ (fun i hi e => by subst e; exact ha hi)

/-! ### the operations under names of their own, so that the walk does not open them -/
def ldAgg (T : TypeId) (v : Value) : Sem Next := do pure (.value (← Instr.loadAt T v))
def stAgg (T : TypeId) (a v : Value) : Sem Next := do Instr.storeAt T a v; pure .skip
def bdAgg (T : TypeId) (ps : Array (Nat × Value)) : Sem Next := do pure (.value (← Instr.build T ps))
def eqAgg (op : BinOp) (T : TypeId) (x y : Operand) (a b : Value) : Sem Next := do pure (.value (← (do eqGuard op T x y a b; binOp op T a b)))
def alAgg (T : TypeId) : Sem Next := do pure (.value (← Instr.alloc T true (.tuple #[])))
section
variable (ev : Operand → Value) (dst : Option Tmp) (T : TypeId) (x y : Operand) (type : TypeId) (pos : String) (after : Array Edge) (guard : Option (Nat × Bool))
theorem ex_ld : execOp ev ⟨dst, .load T x, type, pos, after, guard⟩ = ldAgg T (ev x) := rfl
theorem ex_st : execOp ev ⟨dst, .store T x y, type, pos, after, guard⟩ = stAgg T (ev x) (ev y) := rfl
theorem ex_bd (parts : Array (Nat × Operand)) : execOp ev ⟨dst, .build T parts, type, pos, after, guard⟩ = bdAgg T (parts.map fun (i, x) => (i, ev x)) := rfl
theorem ex_eq (op : BinOp) (t' : TypeId) : execOp ev ⟨dst, .binOp op T x y t', type, pos, after, guard⟩ = eqAgg op T x y (ev x) (ev y) := rfl
theorem ex_al : execOp ev ⟨dst, .alloc T, type, pos, after, guard⟩ = alAgg T := rfl
end
theorem eqFields_true {P : Program} (w : World) {d : Nat} {xs ys : Array Value} {f : Field} {fs : List Field} {a b : Value} (hn : f.name ≠ "_")
    (hx : (part f.type xs f.offset).run P w = .ok a w) (hy : (part f.type ys f.offset).run P w = .ok b w) (he : (Op.equalIn d f.type a b).run P w = .ok true w) :
    (Op.eqFields d xs ys (f :: fs)).run P w = (Op.eqFields d xs ys fs).run P w := by
  simp only [Op.eqFields]
  rw [if_pos hn]
  simp only [Sem.run_bind, hx, hy, he, Result.andThen_ok]
  simp

/-! ### the same at the level of the instructions -/
def ldS (T : TypeId) (v : Value) : Sem Value := Instr.loadAt T v
def stS (T : TypeId) (a v : Value) : Sem Unit := Instr.storeAt T a v
def bdS (T : TypeId) (ps : Array (Nat × Value)) : Sem Value := Instr.build T ps
def eqS (op : BinOp) (T : TypeId) (a b : Value) : Sem Value := binOp op T a b
def alS (T : TypeId) (h : Bool) (o : Value) : Sem Value := Instr.alloc T h o
theorem ld_S (T : TypeId) (v : Value) : Instr.loadAt T v = ldS T v := Eq.trans rfl rfl
theorem st_S (T : TypeId) (a v : Value) : Instr.storeAt T a v = stS T a v := Eq.trans rfl rfl
theorem bd_S (T : TypeId) (ps : Array (Nat × Value)) : Instr.build T ps = bdS T ps := Eq.trans rfl rfl
theorem eq_S (op : BinOp) (T : TypeId) (a b : Value) : binOp op T a b = eqS op T a b := Eq.trans rfl rfl
theorem al_S (T : TypeId) (h : Bool) (o : Value) : Instr.alloc T h o = alS T h o := Eq.trans rfl rfl
theorem of_value {P : Program} {w W : World} {x : Sem Value} {X : Value} (h : (do pure (Next.value (← x)) : Sem Next).run P w = .ok (.value X) W) : x.run P w = .ok X W := by
  rw [Sem.run_bind] at h
  cases hx : x.run P w with
  | ok a w' => rw [hx] at h; simp at h; obtain ⟨rfl, rfl⟩ := h; rfl
  | halt y w' => rw [hx] at h; simp [Result.andThen] at h
theorem of_unit {P : Program} {w W : World} {x : Sem Unit} (h : (do x; pure Next.skip : Sem Next).run P w = .ok .skip W) : x.run P w = .ok () W := by
  rw [Sem.run_bind] at h
  cases hx : x.run P w with
  | ok a w' => rw [hx] at h; simp at h; subst h; rfl
  | halt y w' => rw [hx] at h; simp [Result.andThen] at h
end Go.Proofs.Ytoeapcfnbomlgaa
