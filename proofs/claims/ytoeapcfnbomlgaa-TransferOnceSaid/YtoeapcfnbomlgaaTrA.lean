/- The structs of package transfer as lists of cells, and their loads, stores and builds in this translation.
   Conditions: none; plain definitions and lemmas. -/
import Derived.Test.YtoeapcfnbomlgaaAgg
namespace Go.Proofs.Ytoeapcfnbomlgaa
open Go.RowKit Go.Lib

/-- An identity: 32 bytes. -/
structure Id where
  val : List UInt8
  len : val.length = 32
def toId (l : List UInt8) : Id := if h : l.length = 32 then ⟨l, h⟩ else ⟨List.replicate 32 0, by simp⟩
def idZ : Id := ⟨List.replicate 32 0, rfl⟩
theorem toId_val (id : Id) : toId id.1 = id := by unfold toId; rw [dif_pos id.2]
theorem toId_of {l : List UInt8} (h : l.length = 32) : (toId l).1 = l := by unfold toId; rw [dif_pos h]
/-- transfer.Receiver, command.Command, bulletinref32.Command, bulletinref32.R, transfer.Sender -/
def vL (id : Id) (n : Int) (p v : Value) (d : Bool) : List Value := byteCells id.1 ++ [.int .i64 n, p, v, .bool d]
def cL (verb : Int) (name : ByteArray) (id : Id) (size fr count code : Int) (text : ByteArray) : List Value :=
  [.int .i64 verb, .string name] ++ byteCells id.1 ++ [.int .i64 size, .int .i64 fr, .int .i64 count, .int .i64 code, .string text]
def kL (verb : Int) (id : Id) (fr : Int) (text : ByteArray) : List Value := [.int .i64 verb] ++ byteCells id.1 ++ [.int .i64 fr, .string text]
def rL (id : Id) (n : Int) (text : ByteArray) (d : Bool) : List Value := byteCells id.1 ++ [.int .i64 n, .string text, .bool d]
def sL (id : Id) (text : ByteArray) (chunk sent : Int) (e : Bool) : List Value := byteCells id.1 ++ [.string text, .int .i64 chunk, .int .i64 sent, .bool e]

section
variable {id : Id}
theorem vL_length {n p v d} : (vL id n p v d).length = 36 := by simp [vL, byteCells, id.2]
theorem cL_length {a b c d e f g} : (cL a b id c d e f g).length = 39 := by simp [cL, byteCells, id.2]
theorem kL_length {a b c} : (kL a id b c).length = 35 := by simp [kL, byteCells, id.2]
theorem rL_length {a b c} : (rL id a b c).length = 35 := by simp [rL, byteCells, id.2]
theorem sL_length {a b c d} : (sL id a b c d).length = 36 := by simp [sL, byteCells, id.2]
theorem cL_0 {a b c d e f g} : (cL a b id c d e f g)[0]? = some (.int .i64 a) := Eq.trans rfl rfl
theorem cL_35 {a b c d e f g} : (cL a b id c d e f g)[35]? = some (.int .i64 d) := by
  simp [cL, byteCells, List.getElem?_cons, List.getElem?_append, id.2]
theorem cL_38 {a b c d e f g} : (cL a b id c d e f g)[38]? = some (.string g) := by
  simp [cL, byteCells, List.getElem?_cons, List.getElem?_append, id.2]
theorem cL_id {a b c d e f g} : sub (cL a b id c d e f g) 2 32 = byteCells id.1 := by
  simp [sub, cL, List.take_append, byteCells, id.2]
theorem cL_all {a b c d e f g} : (cL a b id c d e f g).all (·.oneCell') = true := by
  unfold cL; rw [List.all_append, List.all_append, byteCells_all]; rfl
theorem kL_0 {a b c} : (kL a id b c)[0]? = some (.int .i64 a) := Eq.trans rfl rfl
theorem kL_33 {a b c} : (kL a id b c)[33]? = some (.int .i64 b) := by
  simp [kL, byteCells, List.getElem?_cons, List.getElem?_append, id.2]
theorem kL_34 {a b c} : (kL a id b c)[34]? = some (.string c) := by
  simp [kL, byteCells, List.getElem?_cons, List.getElem?_append, id.2]
theorem kL_id {a b c} : sub (kL a id b c) 1 32 = byteCells id.1 := by
  simp [sub, kL, List.take_append, byteCells, id.2]
theorem kL_all {a b c} : (kL a id b c).all (·.oneCell') = true := by
  unfold kL; rw [List.all_append, List.all_append, byteCells_all]; rfl
theorem rL_32 {a b c} : (rL id a b c)[32]? = some (.int .i64 a) := by
  simp [rL, byteCells, List.getElem?_append, id.2]
theorem rL_33 {a b c} : (rL id a b c)[33]? = some (.string b) := by
  simp [rL, byteCells, List.getElem?_append, id.2]
theorem rL_34 {a b c} : (rL id a b c)[34]? = some (.bool c) := by
  simp [rL, byteCells, List.getElem?_append, id.2]
theorem rL_id {a b c} : sub (rL id a b c) 0 32 = byteCells id.1 := by
  simp [sub, rL, List.take_append, byteCells, id.2]
theorem rL_all {a b c} : (rL id a b c).all (·.oneCell') = true := by
  unfold rL; rw [List.all_append, byteCells_all]; rfl
theorem cL_g0 {a b c d e f g} (hh : 0 < (cL a b id c d e f g).length) : (cL a b id c d e f g)[0]'hh = .int .i64 a := by
  have e := cL_0 (id := id) (a := a) (b := b) (c := c) (d := d) (e := e) (f := f) (g := g)
  rw [List.getElem?_eq_getElem hh] at e
  exact Option.some.inj e
theorem cL_g35 {a b c d e f g} (hh : 35 < (cL a b id c d e f g).length) : (cL a b id c d e f g)[35]'hh = .int .i64 d := by
  have e := cL_35 (id := id) (a := a) (b := b) (c := c) (d := d) (e := e) (f := f) (g := g)
  rw [List.getElem?_eq_getElem hh] at e
  exact Option.some.inj e
theorem cL_g38 {a b c d e f g} (hh : 38 < (cL a b id c d e f g).length) : (cL a b id c d e f g)[38]'hh = .string g := by
  have e := cL_38 (id := id) (a := a) (b := b) (c := c) (d := d) (e := e) (f := f) (g := g)
  rw [List.getElem?_eq_getElem hh] at e
  exact Option.some.inj e
theorem kL_g0 {a b c} (hh : 0 < (kL a id b c).length) : (kL a id b c)[0]'hh = .int .i64 a := by
  have e := kL_0 (id := id) (a := a) (b := b) (c := c)
  rw [List.getElem?_eq_getElem hh] at e
  exact Option.some.inj e
theorem kL_g33 {a b c} (hh : 33 < (kL a id b c).length) : (kL a id b c)[33]'hh = .int .i64 b := by
  have e := kL_33 (id := id) (a := a) (b := b) (c := c)
  rw [List.getElem?_eq_getElem hh] at e
  exact Option.some.inj e
theorem kL_g34 {a b c} (hh : 34 < (kL a id b c).length) : (kL a id b c)[34]'hh = .string c := by
  have e := kL_34 (id := id) (a := a) (b := b) (c := c)
  rw [List.getElem?_eq_getElem hh] at e
  exact Option.some.inj e
theorem rL_g32 {a b c} (hh : 32 < (rL id a b c).length) : (rL id a b c)[32]'hh = .int .i64 a := by
  have e := rL_32 (id := id) (a := a) (b := b) (c := c)
  rw [List.getElem?_eq_getElem hh] at e
  exact Option.some.inj e
theorem rL_g33 {a b c} (hh : 33 < (rL id a b c).length) : (rL id a b c)[33]'hh = .string b := by
  have e := rL_33 (id := id) (a := a) (b := b) (c := c)
  rw [List.getElem?_eq_getElem hh] at e
  exact Option.some.inj e
theorem rL_g34 {a b c} (hh : 34 < (rL id a b c).length) : (rL id a b c)[34]'hh = .bool c := by
  have e := rL_34 (id := id) (a := a) (b := b) (c := c)
  rw [List.getElem?_eq_getElem hh] at e
  exact Option.some.inj e
theorem rL_set33 {a b c b'} : (rL id a b c).set 33 (.string b') = rL id a b' c := by
  simp [rL, List.set_append, byteCells, id.2]
theorem rL_set34 {a b c c'} : (rL id a b c).set 34 (.bool c') = rL id a b c' := by
  simp [rL, List.set_append, byteCells, id.2]
theorem kL_set33 {a b c b'} : (kL a id b c).set 33 (.int .i64 b') = kL a id b' c := by
  simp [kL, List.set_append, byteCells, id.2]
theorem kL_set34 {a b c c'} : (kL a id b c).set 34 (.string c') = kL a id b c' := by
  simp [kL, List.set_append, byteCells, id.2]
end


/-! ### the loads, stores, builds and comparisons of this translation -/
section
variable (w : World) (ev : Operand → Value) (dst : Option Tmp) (x y : Operand) (type : TypeId) (pos : String) (after : Array Edge) (guard : Option (Nat × Bool))
theorem load_id (h1 : isPtr (ev x) = true) (h2 : hasAt w (addrOf (ev x)) 32) :
    (execOp ev ⟨dst, .load 23 x, type, pos, after, guard⟩).run Try.prog w = .ok (.value (.agg (aggAt w (addrOf (ev x)) 32).toArray)) w :=
  run_load_op w ev dst 23 x type pos after guard 32 _ Try.underlying23 (by kernel_rfl) (by kernel_rfl) h1 h2
theorem load_cmd (h1 : isPtr (ev x) = true) (h2 : hasAt w (addrOf (ev x)) 39) :
    (execOp ev ⟨dst, .load 34 x, type, pos, after, guard⟩).run Try.prog w = .ok (.value (.agg (aggAt w (addrOf (ev x)) 39).toArray)) w :=
  run_load_op w ev dst 34 x type pos after guard 39 _ Try.underlying34 (by kernel_rfl) (by kernel_rfl) h1 h2
theorem load_rcmd (h1 : isPtr (ev x) = true) (h2 : hasAt w (addrOf (ev x)) 35) :
    (execOp ev ⟨dst, .load 31 x, type, pos, after, guard⟩).run Try.prog w = .ok (.value (.agg (aggAt w (addrOf (ev x)) 35).toArray)) w :=
  run_load_op w ev dst 31 x type pos after guard 35 _ Try.underlying31 (by kernel_rfl) (by kernel_rfl) h1 h2
theorem load_R (h1 : isPtr (ev x) = true) (h2 : hasAt w (addrOf (ev x)) 35) :
    (execOp ev ⟨dst, .load 41 x, type, pos, after, guard⟩).run Try.prog w = .ok (.value (.agg (aggAt w (addrOf (ev x)) 35).toArray)) w :=
  run_load_op w ev dst 41 x type pos after guard 35 _ Try.underlying41 (by kernel_rfl) (by kernel_rfl) h1 h2
theorem store_cmd (h1 : isPtr (ev x) = true) (h2 : canPut w (addrOf (ev x)) 39) (h3 : isAggOf (ev y) 39) :
    (execOp ev ⟨dst, .store 34 x y, type, pos, after, guard⟩).run Try.prog w = .ok .skip (putAgg w (addrOf (ev x)) (ev y).cells.toList) :=
  run_store_op w ev dst 34 x y type pos after guard 39 (by kernel_rfl) h1 h2 h3
theorem store_rcmd (h1 : isPtr (ev x) = true) (h2 : canPut w (addrOf (ev x)) 35) (h3 : isAggOf (ev y) 35) :
    (execOp ev ⟨dst, .store 31 x y, type, pos, after, guard⟩).run Try.prog w = .ok .skip (putAgg w (addrOf (ev x)) (ev y).cells.toList) :=
  run_store_op w ev dst 31 x y type pos after guard 35 (by kernel_rfl) h1 h2 h3
theorem store_R (h1 : isPtr (ev x) = true) (h2 : canPut w (addrOf (ev x)) 35) (h3 : isAggOf (ev y) 35) :
    (execOp ev ⟨dst, .store 41 x y, type, pos, after, guard⟩).run Try.prog w = .ok .skip (putAgg w (addrOf (ev x)) (ev y).cells.toList) :=
  run_store_op w ev dst 41 x y type pos after guard 35 (by kernel_rfl) h1 h2 h3
theorem eq_id (t' : TypeId) (h1 : isBytes (ev x) 32) (h2 : isBytes (ev y) 32) :
    (execOp ev ⟨dst, .binOp .eql 23 x y t', type, pos, after, guard⟩).run Try.prog w = .ok (.value (.bool (bytesOf (ev x) == bytesOf (ev y)))) w := by
  obtain ⟨i, hi, _⟩ := Option.map_eq_some_iff.1 Try.byte_info
  exact run_eqOp_bytes w ev dst 23 t' 5 x y type pos after guard 32 i Try.underlying23 Try.underlying5 hi Try.byte_cells (by kernel_rfl) h1 h2
theorem ne_id (t' : TypeId) (h1 : isBytes (ev x) 32) (h2 : isBytes (ev y) 32) :
    (execOp ev ⟨dst, .binOp .neq 23 x y t', type, pos, after, guard⟩).run Try.prog w = .ok (.value (.bool (!(bytesOf (ev x) == bytesOf (ev y))))) w := by
  obtain ⟨i, hi, _⟩ := Option.map_eq_some_iff.1 Try.byte_info
  exact run_neOp_bytes w ev dst 23 t' 5 x y type pos after guard 32 i Try.underlying23 Try.underlying5 hi Try.byte_cells (by kernel_rfl) h1 h2
end

/-! ### builds -/
def isInt (v : Value) : Prop := ∃ n, v = .int .i64 n
def isStr (v : Value) : Prop := ∃ s, v = .string s
def isBool (v : Value) : Prop := ∃ s, v = .bool s
def intOf' : Value → Int
  | .int _ n => n
  | _ => 0
def strOf : Value → ByteArray
  | .string s => s
  | _ => ByteArray.empty
def boolOf : Value → Bool
  | .bool s => s
  | _ => false
theorem isInt_mk (n : Int) : isInt (.int .i64 n) = True := eq_true ⟨n, rfl⟩
theorem isStr_mk (s : ByteArray) : isStr (.string s) = True := eq_true ⟨s, rfl⟩
theorem isBool_mk (s : Bool) : isBool (.bool s) = True := eq_true ⟨s, rfl⟩
theorem intOf'_mk (k : IntKind) (n : Int) : intOf' (.int k n) = n := Eq.trans rfl rfl
theorem strOf_mk (s : ByteArray) : strOf (.string s) = s := Eq.trans rfl rfl
theorem boolOf_mk (s : Bool) : boolOf (.bool s) = s := Eq.trans rfl rfl
theorem isBytes_true (id : Id) : isBytes (.agg (byteCells id.1).toArray) 32 = True := eq_true (isBytes_mk id.2)
theorem take_byteCells (id : Id) : sub (byteCells id.1) 0 32 = byteCells id.1 := List.take_of_length_le (by simp [byteCells, id.2])
theorem kL_whole (a : Int) (id : Id) (b : Int) (c : ByteArray) : sub (kL a id b c) 0 35 = kL a id b c := List.take_of_length_le (by rw [List.drop_zero, kL_length]; decide)
theorem rL_whole (id : Id) (a : Int) (b : ByteArray) (c : Bool) : sub (rL id a b c) 0 35 = rL id a b c := List.take_of_length_le (by rw [List.drop_zero, rL_length]; decide)
theorem cL_whole (a : Int) (b : ByteArray) (id : Id) (c d e f : Int) (g : ByteArray) : sub (cL a b id c d e f g) 0 39 = cL a b id c d e f g := List.take_of_length_le (by rw [List.drop_zero, cL_length]; decide)
theorem byteCells_len' (id : Id) : (byteCells id.1).length = 32 := by simp [byteCells, id.2]
theorem byteCells_len (l : List UInt8) : (byteCells l).length = l.length := by simp [byteCells]
/-! ### builds -/
theorem bytesOf_mk' (l : List UInt8) : bytesOf (.agg (l.map fun b => Value.int .u8 b.toNat).toArray) = l := bytesOf_mk l
section
variable (w : World) (ev : Operand → Value) (dst : Option Tmp) (type : TypeId) (pos : String) (after : Array Edge) (guard : Option (Nat × Bool))
theorem build_recv2 (x y : Operand) (h1 : isBytes (ev x) 32) (h2 : isInt (ev y)) :
    (execOp ev ⟨dst, .build 64 #[(0, x), (1, y)], type, pos, after, guard⟩).run Try.prog w = .ok (.value (.agg (vL (toId (bytesOf (ev x))) (intOf' (ev y)) (.pointer none) (.slice none 0 0) false).toArray)) w := by
  obtain ⟨l1, e1, hl⟩ := h1
  obtain ⟨l2, e2⟩ := h2
  refine run_build_op w ev dst 64 #[(0, x), (1, y)] type pos after guard _ (List.replicate 32 (.int .u8 0) ++ [.int .i64 0, .pointer none, .slice none 0 0, .bool false] : List Value).toArray [(0, 32), (32, 1), (33, 2), (35, 1)] _ (by kernel_rfl) Try.underlying64 (by kernel_rfl) ?_
  simp only [List.map_cons, List.map_nil, e1, e2]
  rw [fill_step _ _ 0 0 (.agg (byteCells l1).toArray) _ (by simp [Value.cells, byteCells, hl]) (by simp [splice, Value.cells, byteCells, hl])]
  rw [fill_step _ _ 1 32 (.int .i64 l2) _ (by simp [Value.cells, byteCells]) (by simp [splice, Value.cells, byteCells, hl])]
  simp [Instr.fill, splice, Value.cells, vL, List.take_append, List.drop_append, List.take_of_length_le, List.drop_eq_nil_of_le, byteCells, hl, bytesOf_mk', toId_of, intOf', strOf, boolOf]
theorem build_recv3 (x y z : Operand) (h1 : isBytes (ev x) 32) (h2 : isInt (ev y)) (h3 : isBool (ev z)) :
    (execOp ev ⟨dst, .build 64 #[(0, x), (1, y), (3, z)], type, pos, after, guard⟩).run Try.prog w = .ok (.value (.agg (vL (toId (bytesOf (ev x))) (intOf' (ev y)) (.pointer none) (.slice none 0 0) (boolOf (ev z))).toArray)) w := by
  obtain ⟨l1, e1, hl⟩ := h1
  obtain ⟨l2, e2⟩ := h2
  obtain ⟨l3, e3⟩ := h3
  refine run_build_op w ev dst 64 #[(0, x), (1, y), (3, z)] type pos after guard _ (List.replicate 32 (.int .u8 0) ++ [.int .i64 0, .pointer none, .slice none 0 0, .bool false] : List Value).toArray [(0, 32), (32, 1), (33, 2), (35, 1)] _ (by kernel_rfl) Try.underlying64 (by kernel_rfl) ?_
  simp only [List.map_cons, List.map_nil, e1, e2, e3]
  rw [fill_step _ _ 0 0 (.agg (byteCells l1).toArray) _ (by simp [Value.cells, byteCells, hl]) (by simp [splice, Value.cells, byteCells, hl])]
  rw [fill_step _ _ 1 32 (.int .i64 l2) _ (by simp [Value.cells, byteCells]) (by simp [splice, Value.cells, byteCells, hl])]
  rw [fill_step _ _ 3 35 (.bool l3) _ (by simp [Value.cells, byteCells]) (by simp [splice, Value.cells, byteCells, hl])]
  simp [Instr.fill, splice, Value.cells, vL, List.take_append, List.drop_append, List.take_of_length_le, List.drop_eq_nil_of_le, byteCells, hl, bytesOf_mk', toId_of, intOf', strOf, boolOf]
theorem build_send (x y z u : Operand) (h1 : isBytes (ev x) 32) (h2 : isStr (ev y)) (h3 : isInt (ev z)) (h4 : isInt (ev u)) :
    (execOp ev ⟨dst, .build 74 #[(0, x), (1, y), (2, z), (3, u)], type, pos, after, guard⟩).run Try.prog w = .ok (.value (.agg (sL (toId (bytesOf (ev x))) (strOf (ev y)) (intOf' (ev z)) (intOf' (ev u)) false).toArray)) w := by
  obtain ⟨l1, e1, hl⟩ := h1
  obtain ⟨l2, e2⟩ := h2
  obtain ⟨l3, e3⟩ := h3
  obtain ⟨l4, e4⟩ := h4
  refine run_build_op w ev dst 74 #[(0, x), (1, y), (2, z), (3, u)] type pos after guard _ (List.replicate 32 (.int .u8 0) ++ [.string ⟨#[]⟩, .int .i64 0, .int .i64 0, .bool false] : List Value).toArray [(0, 32), (32, 1), (33, 1), (34, 1), (35, 1)] _ (by kernel_rfl) Try.underlying74 (by kernel_rfl) ?_
  simp only [List.map_cons, List.map_nil, e1, e2, e3, e4]
  rw [fill_step _ _ 0 0 (.agg (byteCells l1).toArray) _ (by simp [Value.cells, byteCells, hl]) (by simp [splice, Value.cells, byteCells, hl])]
  rw [fill_step _ _ 1 32 (.string l2) _ (by simp [Value.cells, byteCells]) (by simp [splice, Value.cells, byteCells, hl])]
  rw [fill_step _ _ 2 33 (.int .i64 l3) _ (by simp [Value.cells, byteCells]) (by simp [splice, Value.cells, byteCells, hl])]
  rw [fill_step _ _ 3 34 (.int .i64 l4) _ (by simp [Value.cells, byteCells]) (by simp [splice, Value.cells, byteCells, hl])]
  simp [Instr.fill, splice, Value.cells, sL, List.take_append, List.drop_append, List.take_of_length_le, List.drop_eq_nil_of_le, byteCells, hl, bytesOf_mk', toId_of, intOf', strOf, boolOf]
theorem build_cmd4 (x y z u : Operand) (h1 : isInt (ev x)) (h2 : isBytes (ev y) 32) (h3 : isInt (ev z)) (h4 : isStr (ev u)) :
    (execOp ev ⟨dst, .build 34 #[(0, x), (2, y), (4, z), (7, u)], type, pos, after, guard⟩).run Try.prog w = .ok (.value (.agg (cL (intOf' (ev x)) ⟨#[]⟩ (toId (bytesOf (ev y))) 0 (intOf' (ev z)) 0 0 (strOf (ev u))).toArray)) w := by
  obtain ⟨l1, e1⟩ := h1
  obtain ⟨l2, e2, hl⟩ := h2
  obtain ⟨l3, e3⟩ := h3
  obtain ⟨l4, e4⟩ := h4
  refine run_build_op w ev dst 34 #[(0, x), (2, y), (4, z), (7, u)] type pos after guard _ ([.int .i64 0, .string ⟨#[]⟩] ++ List.replicate 32 (.int .u8 0) ++ [.int .i64 0, .int .i64 0, .int .i64 0, .int .i64 0, .string ⟨#[]⟩] : List Value).toArray [(0, 1), (1, 1), (2, 32), (34, 1), (35, 1), (36, 1), (37, 1), (38, 1)] _ (by kernel_rfl) Try.underlying34 (by kernel_rfl) ?_
  simp only [List.map_cons, List.map_nil, e1, e2, e3, e4]
  rw [fill_step _ _ 0 0 (.int .i64 l1) _ (by simp [Value.cells, byteCells]) (by simp [splice, Value.cells, byteCells, hl])]
  rw [fill_step _ _ 2 2 (.agg (byteCells l2).toArray) _ (by simp [Value.cells, byteCells, hl]) (by simp [splice, Value.cells, byteCells, hl])]
  rw [fill_step _ _ 4 35 (.int .i64 l3) _ (by simp [Value.cells, byteCells]) (by simp [splice, Value.cells, byteCells, hl])]
  rw [fill_step _ _ 7 38 (.string l4) _ (by simp [Value.cells, byteCells]) (by simp [splice, Value.cells, byteCells, hl])]
  simp [Instr.fill, splice, Value.cells, cL, List.take_append, List.drop_append, List.take_of_length_le, List.drop_eq_nil_of_le, byteCells, hl, bytesOf_mk', toId_of, intOf', strOf, boolOf]
theorem build_cmd2 (x y : Operand) (h1 : isInt (ev x)) (h2 : isBytes (ev y) 32) :
    (execOp ev ⟨dst, .build 34 #[(0, x), (2, y)], type, pos, after, guard⟩).run Try.prog w = .ok (.value (.agg (cL (intOf' (ev x)) ⟨#[]⟩ (toId (bytesOf (ev y))) 0 0 0 0 ⟨#[]⟩).toArray)) w := by
  obtain ⟨l1, e1⟩ := h1
  obtain ⟨l2, e2, hl⟩ := h2
  refine run_build_op w ev dst 34 #[(0, x), (2, y)] type pos after guard _ ([.int .i64 0, .string ⟨#[]⟩] ++ List.replicate 32 (.int .u8 0) ++ [.int .i64 0, .int .i64 0, .int .i64 0, .int .i64 0, .string ⟨#[]⟩] : List Value).toArray [(0, 1), (1, 1), (2, 32), (34, 1), (35, 1), (36, 1), (37, 1), (38, 1)] _ (by kernel_rfl) Try.underlying34 (by kernel_rfl) ?_
  simp only [List.map_cons, List.map_nil, e1, e2]
  rw [fill_step _ _ 0 0 (.int .i64 l1) _ (by simp [Value.cells, byteCells]) (by simp [splice, Value.cells, byteCells, hl])]
  rw [fill_step _ _ 2 2 (.agg (byteCells l2).toArray) _ (by simp [Value.cells, byteCells, hl]) (by simp [splice, Value.cells, byteCells, hl])]
  simp [Instr.fill, splice, Value.cells, cL, List.take_append, List.drop_append, List.take_of_length_le, List.drop_eq_nil_of_le, byteCells, hl, bytesOf_mk', toId_of, intOf', strOf, boolOf]
theorem build_cmd0  :
    (execOp ev ⟨dst, .build 34 #[], type, pos, after, guard⟩).run Try.prog w = .ok (.value (.agg (cL 0 ⟨#[]⟩ idZ 0 0 0 0 ⟨#[]⟩).toArray)) w := by
  refine run_build_op w ev dst 34 #[] type pos after guard _ ([.int .i64 0, .string ⟨#[]⟩] ++ List.replicate 32 (.int .u8 0) ++ [.int .i64 0, .int .i64 0, .int .i64 0, .int .i64 0, .string ⟨#[]⟩] : List Value).toArray [(0, 1), (1, 1), (2, 32), (34, 1), (35, 1), (36, 1), (37, 1), (38, 1)] _ (by kernel_rfl) Try.underlying34 (by kernel_rfl) ?_
  simp only [List.map_cons, List.map_nil]
  rfl
theorem build_rcmd (x y z : Operand) (h1 : isInt (ev x)) (h2 : isBytes (ev y) 32) (h3 : isStr (ev z)) :
    (execOp ev ⟨dst, .build 31 #[(0, x), (1, y), (3, z)], type, pos, after, guard⟩).run Try.prog w = .ok (.value (.agg (kL (intOf' (ev x)) (toId (bytesOf (ev y))) 0 (strOf (ev z))).toArray)) w := by
  obtain ⟨l1, e1⟩ := h1
  obtain ⟨l2, e2, hl⟩ := h2
  obtain ⟨l3, e3⟩ := h3
  refine run_build_op w ev dst 31 #[(0, x), (1, y), (3, z)] type pos after guard _ ([.int .i64 0] ++ List.replicate 32 (.int .u8 0) ++ [.int .i64 0, .string ⟨#[]⟩] : List Value).toArray [(0, 1), (1, 32), (33, 1), (34, 1)] _ (by kernel_rfl) Try.underlying31 (by kernel_rfl) ?_
  simp only [List.map_cons, List.map_nil, e1, e2, e3]
  rw [fill_step _ _ 0 0 (.int .i64 l1) _ (by simp [Value.cells, byteCells]) (by simp [splice, Value.cells, byteCells, hl])]
  rw [fill_step _ _ 1 1 (.agg (byteCells l2).toArray) _ (by simp [Value.cells, byteCells, hl]) (by simp [splice, Value.cells, byteCells, hl])]
  rw [fill_step _ _ 3 34 (.string l3) _ (by simp [Value.cells, byteCells]) (by simp [splice, Value.cells, byteCells, hl])]
  simp [Instr.fill, splice, Value.cells, kL, List.take_append, List.drop_append, List.take_of_length_le, List.drop_eq_nil_of_le, byteCells, hl, bytesOf_mk', toId_of, intOf', strOf, boolOf]
theorem build_R (x y : Operand) (h1 : isBytes (ev x) 32) (h2 : isInt (ev y)) :
    (execOp ev ⟨dst, .build 41 #[(0, x), (1, y)], type, pos, after, guard⟩).run Try.prog w = .ok (.value (.agg (rL (toId (bytesOf (ev x))) (intOf' (ev y)) ⟨#[]⟩ false).toArray)) w := by
  obtain ⟨l1, e1, hl⟩ := h1
  obtain ⟨l2, e2⟩ := h2
  refine run_build_op w ev dst 41 #[(0, x), (1, y)] type pos after guard _ (List.replicate 32 (.int .u8 0) ++ [.int .i64 0, .string ⟨#[]⟩, .bool false] : List Value).toArray [(0, 32), (32, 1), (33, 1), (34, 1)] _ (by kernel_rfl) Try.underlying41 (by kernel_rfl) ?_
  simp only [List.map_cons, List.map_nil, e1, e2]
  rw [fill_step _ _ 0 0 (.agg (byteCells l1).toArray) _ (by simp [Value.cells, byteCells, hl]) (by simp [splice, Value.cells, byteCells, hl])]
  rw [fill_step _ _ 1 32 (.int .i64 l2) _ (by simp [Value.cells, byteCells]) (by simp [splice, Value.cells, byteCells, hl])]
  simp [Instr.fill, splice, Value.cells, rL, List.take_append, List.drop_append, List.take_of_length_le, List.drop_eq_nil_of_le, byteCells, hl, bytesOf_mk', toId_of, intOf', strOf, boolOf]
end
/-! ### new variables -/
theorem run_alloc_op {P : Program} (w : World) (ev : Operand → Value) (dst : Option Tmp) (T : TypeId) (type : TypeId) (pos : String) (after : Array Edge) (guard : Option (Nat × Bool)) (zero : Array Value)
    (hz : (P.info? T).map (·.zero) = some (some (.agg zero))) :
    (execOp ev ⟨dst, .alloc T, type, pos, after, guard⟩).run P w = .ok (.value (.pointer (some ⟨w.heap.size, 0, none⟩))) (w.alloc (.cells zero T)) := by
  have hzr : (zeroValue T).run P w = .ok (.agg zero) w := by
    cases hq : P.info? T with
    | none => simp [hq] at hz
    | some i =>
      simp [hq] at hz
      simp [zeroValue, typeInfo, hq, hz]
  unfold execOp
  simp [Instr.alloc, hzr, Sem.run_bind, newVar, newRow, Value.cells]
section
variable (w : World) (ev : Operand → Value) (dst : Option Tmp) (type : TypeId) (pos : String) (after : Array Edge) (guard : Option (Nat × Bool))
theorem alloc_cmd : (execOp ev ⟨dst, .alloc 34, type, pos, after, guard⟩).run Try.prog w = .ok (.value (.pointer (some ⟨w.heap.size, 0, none⟩))) (w.alloc (.cells (cL 0 ⟨#[]⟩ idZ 0 0 0 0 ⟨#[]⟩).toArray 34)) :=
  run_alloc_op w ev dst 34 type pos after guard _ (by kernel_rfl)
theorem alloc_rcmd : (execOp ev ⟨dst, .alloc 31, type, pos, after, guard⟩).run Try.prog w = .ok (.value (.pointer (some ⟨w.heap.size, 0, none⟩))) (w.alloc (.cells (kL 0 idZ 0 ⟨#[]⟩).toArray 31)) :=
  run_alloc_op w ev dst 31 type pos after guard _ (by kernel_rfl)
theorem alloc_R : (execOp ev ⟨dst, .alloc 41, type, pos, after, guard⟩).run Try.prog w = .ok (.value (.pointer (some ⟨w.heap.size, 0, none⟩))) (w.alloc (.cells (rL idZ 0 ⟨#[]⟩ false).toArray 41)) :=
  run_alloc_op w ev dst 41 type pos after guard _ (by kernel_rfl)
end
section
variable (w : World) (A : Act) (dst : Option Tmp) (type : TypeId) (pos : String) (after : Array Edge) (guard : Option (Nat × Bool))
theorem build_cmd2c (n : Int) (y : Operand) (h2 : isBytes (A.eval y) 32) :
    (execOp A.eval ⟨dst, .build 34 #[(0, .const (.int .i64 n)), (2, y)], type, pos, after, guard⟩).run Try.prog w = .ok (.value (.agg (cL n ⟨#[]⟩ (toId (bytesOf (A.eval y))) 0 0 0 0 ⟨#[]⟩).toArray)) w :=
  build_cmd2 w A.eval dst type pos after guard (.const (.int .i64 n)) y ⟨n, rfl⟩ h2
theorem build_cmd4c (n : Int) (y z u : Operand) (h2 : isBytes (A.eval y) 32) (h3 : isInt (A.eval z)) (h4 : isStr (A.eval u)) :
    (execOp A.eval ⟨dst, .build 34 #[(0, .const (.int .i64 n)), (2, y), (4, z), (7, u)], type, pos, after, guard⟩).run Try.prog w = .ok (.value (.agg (cL n ⟨#[]⟩ (toId (bytesOf (A.eval y))) 0 (intOf' (A.eval z)) 0 0 (strOf (A.eval u))).toArray)) w :=
  build_cmd4 w A.eval dst type pos after guard (.const (.int .i64 n)) y z u ⟨n, rfl⟩ h2 h3 h4
theorem build_rcmdc (n : Int) (s : ByteArray) (y : Operand) (h2 : isBytes (A.eval y) 32) :
    (execOp A.eval ⟨dst, .build 31 #[(0, .const (.int .i64 n)), (1, y), (3, .const (.string s))], type, pos, after, guard⟩).run Try.prog w = .ok (.value (.agg (kL n (toId (bytesOf (A.eval y))) 0 s).toArray)) w :=
  build_rcmd w A.eval dst type pos after guard (.const (.int .i64 n)) y (.const (.string s)) ⟨n, rfl⟩ h2 ⟨s, rfl⟩
def idOne : Id := ⟨1 :: List.replicate 31 0, rfl⟩
theorem build_idOne : (execOp A.eval ⟨dst, .build 23 #[(0, .const (.int .u8 1))], type, pos, after, guard⟩).run Try.prog w = .ok (.value (.agg (byteCells idOne.1).toArray)) w := by kernel_rfl
end
/-! ### the rules of the walks -/
section
variable (ev : Operand → Value) (dst : Option Tmp) (x y : Operand) (type : TypeId) (pos : String) (after : Array Edge) (guard : Option (Nat × Bool)) (w : World) (u v a b c d : Value)
theorem ex_ld_id : execOp ev ⟨dst, .load 23 x, type, pos, after, guard⟩ = ldAgg 23 (ev x) := Eq.trans rfl rfl
theorem run_ld_id (h1 : isPtr v = true) (h2 : hasAt w (addrOf v) 32) : (ldAgg 23 v).run Try.prog w = .ok (.value (.agg (aggAt w (addrOf v) 32).toArray)) w := load_id w (fun _ => v) none (.tmp 0) 0 default #[] none h1 h2
theorem ex_ld_cmd : execOp ev ⟨dst, .load 34 x, type, pos, after, guard⟩ = ldAgg 34 (ev x) := Eq.trans rfl rfl
theorem run_ld_cmd (h1 : isPtr v = true) (h2 : hasAt w (addrOf v) 39) : (ldAgg 34 v).run Try.prog w = .ok (.value (.agg (aggAt w (addrOf v) 39).toArray)) w := load_cmd w (fun _ => v) none (.tmp 0) 0 default #[] none h1 h2
theorem ex_ld_rcmd : execOp ev ⟨dst, .load 31 x, type, pos, after, guard⟩ = ldAgg 31 (ev x) := Eq.trans rfl rfl
theorem run_ld_rcmd (h1 : isPtr v = true) (h2 : hasAt w (addrOf v) 35) : (ldAgg 31 v).run Try.prog w = .ok (.value (.agg (aggAt w (addrOf v) 35).toArray)) w := load_rcmd w (fun _ => v) none (.tmp 0) 0 default #[] none h1 h2
theorem ex_ld_R : execOp ev ⟨dst, .load 41 x, type, pos, after, guard⟩ = ldAgg 41 (ev x) := Eq.trans rfl rfl
theorem run_ld_R (h1 : isPtr v = true) (h2 : hasAt w (addrOf v) 35) : (ldAgg 41 v).run Try.prog w = .ok (.value (.agg (aggAt w (addrOf v) 35).toArray)) w := load_R w (fun _ => v) none (.tmp 0) 0 default #[] none h1 h2
theorem store_tk (h1 : isPtr u = true) (h2 : canPut w (addrOf u) 12) (h3 : isAggOf v 12) : (stAgg 65 u v).run Try.prog w = .ok .skip (putAgg w (addrOf u) v.cells.toList) := run_store_op w (fun | .tmp 0 => u | _ => v) none 65 (.tmp 0) (.tmp 1) 0 default #[] none 12 (by kernel_rfl) h1 h2 h3
theorem ex_st_cmd : execOp ev ⟨dst, .store 34 x y, type, pos, after, guard⟩ = stAgg 34 (ev x) (ev y) := Eq.trans rfl rfl
theorem run_st_cmd (h1 : isPtr u = true) (h2 : canPut w (addrOf u) 39) (h3 : isAggOf v 39) : (stAgg 34 u v).run Try.prog w = .ok .skip (putAgg w (addrOf u) v.cells.toList) := store_cmd w (fun | .tmp 0 => u | _ => v) none (.tmp 0) (.tmp 1) 0 default #[] none h1 h2 h3
theorem ex_st_rcmd : execOp ev ⟨dst, .store 31 x y, type, pos, after, guard⟩ = stAgg 31 (ev x) (ev y) := Eq.trans rfl rfl
theorem run_st_rcmd (h1 : isPtr u = true) (h2 : canPut w (addrOf u) 35) (h3 : isAggOf v 35) : (stAgg 31 u v).run Try.prog w = .ok .skip (putAgg w (addrOf u) v.cells.toList) := store_rcmd w (fun | .tmp 0 => u | _ => v) none (.tmp 0) (.tmp 1) 0 default #[] none h1 h2 h3
theorem ex_st_R : execOp ev ⟨dst, .store 41 x y, type, pos, after, guard⟩ = stAgg 41 (ev x) (ev y) := Eq.trans rfl rfl
theorem run_st_R (h1 : isPtr u = true) (h2 : canPut w (addrOf u) 35) (h3 : isAggOf v 35) : (stAgg 41 u v).run Try.prog w = .ok .skip (putAgg w (addrOf u) v.cells.toList) := store_R w (fun | .tmp 0 => u | _ => v) none (.tmp 0) (.tmp 1) 0 default #[] none h1 h2 h3
theorem ex_st_tk : execOp ev ⟨dst, .store 65 x y, type, pos, after, guard⟩ = stAgg 65 (ev x) (ev y) := Eq.trans rfl rfl
theorem ex_al_cmd : execOp ev ⟨dst, .alloc 34, type, pos, after, guard⟩ = alAgg 34 := Eq.trans rfl rfl
theorem run_al_cmd : (alAgg 34).run Try.prog w = .ok (.value (.pointer (some ⟨w.heap.size, 0, none⟩))) (w.alloc (.cells (cL 0 ⟨#[]⟩ idZ 0 0 0 0 ⟨#[]⟩).toArray 34)) := alloc_cmd w (fun _ => undef) none 0 default #[] none
theorem ex_al_rcmd : execOp ev ⟨dst, .alloc 31, type, pos, after, guard⟩ = alAgg 31 := Eq.trans rfl rfl
theorem run_al_rcmd : (alAgg 31).run Try.prog w = .ok (.value (.pointer (some ⟨w.heap.size, 0, none⟩))) (w.alloc (.cells (kL 0 idZ 0 ⟨#[]⟩).toArray 31)) := alloc_rcmd w (fun _ => undef) none 0 default #[] none
theorem ex_al_R : execOp ev ⟨dst, .alloc 41, type, pos, after, guard⟩ = alAgg 41 := Eq.trans rfl rfl
theorem run_al_R : (alAgg 41).run Try.prog w = .ok (.value (.pointer (some ⟨w.heap.size, 0, none⟩))) (w.alloc (.cells (rL idZ 0 ⟨#[]⟩ false).toArray 41)) := alloc_R w (fun _ => undef) none 0 default #[] none
theorem ex_eq_id (t' : TypeId) : execOp ev ⟨dst, .binOp .eql 23 x y t', type, pos, after, guard⟩ = eqAgg .eql 23 x y (ev x) (ev y) := Eq.trans rfl rfl
theorem run_eq_id (h1 : isBytes a 32) (h2 : isBytes b 32) : (eqAgg .eql 23 x y a b).run Try.prog w = .ok (.value (.bool ((bytesOf a == bytesOf b)))) w := by
  obtain ⟨la, rfl, ha⟩ := h1
  obtain ⟨lb, rfl, hb⟩ := h2
  obtain ⟨i, hi, _⟩ := Option.map_eq_some_iff.1 Try.byte_info
  simp [eqAgg, Sem.run_bind, run_eqGuard_agg _ _ _ _ _ _ _ (show Try.prog.eqGuardType Try.prog.depth 23 = false by kernel_rfl), run_eql_struct, run_equal_bytes w 9998 Try.underlying23 Try.underlying5 hi Try.byte_cells la lb ha hb, bytesOf_mk]
theorem ex_ne_id (t' : TypeId) : execOp ev ⟨dst, .binOp .neq 23 x y t', type, pos, after, guard⟩ = eqAgg .neq 23 x y (ev x) (ev y) := Eq.trans rfl rfl
theorem run_ne_id (h1 : isBytes a 32) (h2 : isBytes b 32) : (eqAgg .neq 23 x y a b).run Try.prog w = .ok (.value (.bool (!(bytesOf a == bytesOf b)))) w := by
  obtain ⟨la, rfl, ha⟩ := h1
  obtain ⟨lb, rfl, hb⟩ := h2
  obtain ⟨i, hi, _⟩ := Option.map_eq_some_iff.1 Try.byte_info
  simp [eqAgg, Sem.run_bind, run_eqGuard_agg _ _ _ _ _ _ _ (show Try.prog.eqGuardType Try.prog.depth 23 = false by kernel_rfl), run_neq_struct, run_equal_bytes w 9998 Try.underlying23 Try.underlying5 hi Try.byte_cells la lb ha hb, bytesOf_mk]
theorem ex_bd_recv (parts : Array (Nat × Operand)) : execOp ev ⟨dst, .build 64 parts, type, pos, after, guard⟩ = bdAgg 64 (parts.map fun (i, x) => (i, ev x)) := Eq.trans rfl rfl
theorem ex_bd_send (parts : Array (Nat × Operand)) : execOp ev ⟨dst, .build 74 parts, type, pos, after, guard⟩ = bdAgg 74 (parts.map fun (i, x) => (i, ev x)) := Eq.trans rfl rfl
theorem ex_bd_cmd (parts : Array (Nat × Operand)) : execOp ev ⟨dst, .build 34 parts, type, pos, after, guard⟩ = bdAgg 34 (parts.map fun (i, x) => (i, ev x)) := Eq.trans rfl rfl
theorem ex_bd_rcmd (parts : Array (Nat × Operand)) : execOp ev ⟨dst, .build 31 parts, type, pos, after, guard⟩ = bdAgg 31 (parts.map fun (i, x) => (i, ev x)) := Eq.trans rfl rfl
theorem ex_bd_R (parts : Array (Nat × Operand)) : execOp ev ⟨dst, .build 41 parts, type, pos, after, guard⟩ = bdAgg 41 (parts.map fun (i, x) => (i, ev x)) := Eq.trans rfl rfl
theorem ex_bd_id (parts : Array (Nat × Operand)) : execOp ev ⟨dst, .build 23 parts, type, pos, after, guard⟩ = bdAgg 23 (parts.map fun (i, x) => (i, ev x)) := Eq.trans rfl rfl
theorem run_bd_recv2 (h0 : isBytes a 32) (h1 : isInt b) : (bdAgg 64 #[(0, a), (1, b)]).run Try.prog w = .ok (.value (.agg (vL (toId (bytesOf a)) (intOf' b) (.pointer none) (.slice none 0 0) false).toArray)) w := by
  have h := build_recv2 w (fun | .tmp 0 => a | .tmp 1 => b | _ => undef) none 0 default #[] none (.tmp 0) (.tmp 1) h0 h1
  rw [ex_bd] at h
  simpa only [List.map_toArray, List.map_cons, List.map_nil] using h
theorem run_bd_recv3 (h0 : isBytes a 32) (h1 : isInt b) (h2 : isBool c) : (bdAgg 64 #[(0, a), (1, b), (3, c)]).run Try.prog w = .ok (.value (.agg (vL (toId (bytesOf a)) (intOf' b) (.pointer none) (.slice none 0 0) (boolOf c)).toArray)) w := by
  have h := build_recv3 w (fun | .tmp 0 => a | .tmp 1 => b | .tmp 2 => c | _ => undef) none 0 default #[] none (.tmp 0) (.tmp 1) (.tmp 2) h0 h1 h2
  rw [ex_bd] at h
  simpa only [List.map_toArray, List.map_cons, List.map_nil] using h
theorem run_bd_send (h0 : isBytes a 32) (h1 : isStr b) (h2 : isInt c) (h3 : isInt d) : (bdAgg 74 #[(0, a), (1, b), (2, c), (3, d)]).run Try.prog w = .ok (.value (.agg (sL (toId (bytesOf a)) (strOf b) (intOf' c) (intOf' d) false).toArray)) w := by
  have h := build_send w (fun | .tmp 0 => a | .tmp 1 => b | .tmp 2 => c | .tmp 3 => d | _ => undef) none 0 default #[] none (.tmp 0) (.tmp 1) (.tmp 2) (.tmp 3) h0 h1 h2 h3
  rw [ex_bd] at h
  simpa only [List.map_toArray, List.map_cons, List.map_nil] using h
theorem run_bd_cmd4 (h0 : isInt a) (h1 : isBytes b 32) (h2 : isInt c) (h3 : isStr d) : (bdAgg 34 #[(0, a), (2, b), (4, c), (7, d)]).run Try.prog w = .ok (.value (.agg (cL (intOf' a) ⟨#[]⟩ (toId (bytesOf b)) 0 (intOf' c) 0 0 (strOf d)).toArray)) w := by
  have h := build_cmd4 w (fun | .tmp 0 => a | .tmp 1 => b | .tmp 2 => c | .tmp 3 => d | _ => undef) none 0 default #[] none (.tmp 0) (.tmp 1) (.tmp 2) (.tmp 3) h0 h1 h2 h3
  rw [ex_bd] at h
  simpa only [List.map_toArray, List.map_cons, List.map_nil] using h
theorem run_bd_cmd2 (h0 : isInt a) (h1 : isBytes b 32) : (bdAgg 34 #[(0, a), (2, b)]).run Try.prog w = .ok (.value (.agg (cL (intOf' a) ⟨#[]⟩ (toId (bytesOf b)) 0 0 0 0 ⟨#[]⟩).toArray)) w := by
  have h := build_cmd2 w (fun | .tmp 0 => a | .tmp 1 => b | _ => undef) none 0 default #[] none (.tmp 0) (.tmp 1) h0 h1
  rw [ex_bd] at h
  simpa only [List.map_toArray, List.map_cons, List.map_nil] using h
theorem run_bd_cmd0  : (bdAgg 34 #[]).run Try.prog w = .ok (.value (.agg (cL 0 ⟨#[]⟩ idZ 0 0 0 0 ⟨#[]⟩).toArray)) w := by
  have h := build_cmd0 w (fun _ => undef) none 0 default #[] none  
  rw [ex_bd] at h
  simpa only [List.map_toArray, List.map_cons, List.map_nil] using h
theorem run_bd_rcmd (h0 : isInt a) (h1 : isBytes b 32) (h2 : isStr c) : (bdAgg 31 #[(0, a), (1, b), (3, c)]).run Try.prog w = .ok (.value (.agg (kL (intOf' a) (toId (bytesOf b)) 0 (strOf c)).toArray)) w := by
  have h := build_rcmd w (fun | .tmp 0 => a | .tmp 1 => b | .tmp 2 => c | _ => undef) none 0 default #[] none (.tmp 0) (.tmp 1) (.tmp 2) h0 h1 h2
  rw [ex_bd] at h
  simpa only [List.map_toArray, List.map_cons, List.map_nil] using h
theorem run_bd_R (h0 : isBytes a 32) (h1 : isInt b) : (bdAgg 41 #[(0, a), (1, b)]).run Try.prog w = .ok (.value (.agg (rL (toId (bytesOf a)) (intOf' b) ⟨#[]⟩ false).toArray)) w := by
  have h := build_R w (fun | .tmp 0 => a | .tmp 1 => b | _ => undef) none 0 default #[] none (.tmp 0) (.tmp 1) h0 h1
  rw [ex_bd] at h
  simpa only [List.map_toArray, List.map_cons, List.map_nil] using h
theorem run_bd_one : (bdAgg 23 #[(0, .int .u8 1)]).run Try.prog w = .ok (.value (.agg (byteCells idOne.1).toArray)) w := by kernel_rfl
end
/-! ### the rules of the walks, at the level of the instructions -/
section
variable (x y : Operand) (w : World) (u v a b c d : Value)
theorem S_ld_id : Instr.loadAt 23 v = ldS 23 v := ld_S _ _
theorem runS_ld_id (h1 : isPtr v = true) (h2 : hasAt w (addrOf v) 32) : (ldS 23 v).run Try.prog w = .ok (.agg (aggAt w (addrOf v) 32).toArray) w := of_value (run_ld_id w v h1 h2)
theorem S_ld_cmd : Instr.loadAt 34 v = ldS 34 v := ld_S _ _
theorem runS_ld_cmd (h1 : isPtr v = true) (h2 : hasAt w (addrOf v) 39) : (ldS 34 v).run Try.prog w = .ok (.agg (aggAt w (addrOf v) 39).toArray) w := of_value (run_ld_cmd w v h1 h2)
theorem S_ld_rcmd : Instr.loadAt 31 v = ldS 31 v := ld_S _ _
theorem runS_ld_rcmd (h1 : isPtr v = true) (h2 : hasAt w (addrOf v) 35) : (ldS 31 v).run Try.prog w = .ok (.agg (aggAt w (addrOf v) 35).toArray) w := of_value (run_ld_rcmd w v h1 h2)
theorem S_ld_R : Instr.loadAt 41 v = ldS 41 v := ld_S _ _
theorem runS_ld_R (h1 : isPtr v = true) (h2 : hasAt w (addrOf v) 35) : (ldS 41 v).run Try.prog w = .ok (.agg (aggAt w (addrOf v) 35).toArray) w := of_value (run_ld_R w v h1 h2)
theorem S_st_cmd : Instr.storeAt 34 u v = stS 34 u v := st_S _ _ _
theorem runS_st_cmd (h1 : isPtr u = true) (h2 : canPut w (addrOf u) 39) (h3 : isAggOf v 39) : (stS 34 u v).run Try.prog w = .ok () (putAgg w (addrOf u) v.cells.toList) := of_unit (run_st_cmd w u v h1 h2 h3)
theorem S_st_rcmd : Instr.storeAt 31 u v = stS 31 u v := st_S _ _ _
theorem runS_st_rcmd (h1 : isPtr u = true) (h2 : canPut w (addrOf u) 35) (h3 : isAggOf v 35) : (stS 31 u v).run Try.prog w = .ok () (putAgg w (addrOf u) v.cells.toList) := of_unit (run_st_rcmd w u v h1 h2 h3)
theorem S_st_R : Instr.storeAt 41 u v = stS 41 u v := st_S _ _ _
theorem runS_st_R (h1 : isPtr u = true) (h2 : canPut w (addrOf u) 35) (h3 : isAggOf v 35) : (stS 41 u v).run Try.prog w = .ok () (putAgg w (addrOf u) v.cells.toList) := of_unit (run_st_R w u v h1 h2 h3)
theorem S_st_tk : Instr.storeAt 65 u v = stS 65 u v := st_S _ _ _
theorem runS_st_tk (h1 : isPtr u = true) (h2 : canPut w (addrOf u) 12) (h3 : isAggOf v 12) : (stS 65 u v).run Try.prog w = .ok () (putAgg w (addrOf u) v.cells.toList) := of_unit (store_tk w u v h1 h2 h3)
theorem S_al_cmd (h : Bool) : Instr.alloc 34 h v = alS 34 h v := al_S _ _ _
theorem runS_al_cmd : (alS 34 true (.tuple #[])).run Try.prog w = .ok (.pointer (some ⟨w.heap.size, 0, none⟩)) (w.alloc (.cells (cL 0 ⟨#[]⟩ idZ 0 0 0 0 ⟨#[]⟩).toArray 34)) := of_value (run_al_cmd w)
theorem S_al_rcmd (h : Bool) : Instr.alloc 31 h v = alS 31 h v := al_S _ _ _
theorem runS_al_rcmd : (alS 31 true (.tuple #[])).run Try.prog w = .ok (.pointer (some ⟨w.heap.size, 0, none⟩)) (w.alloc (.cells (kL 0 idZ 0 ⟨#[]⟩).toArray 31)) := of_value (run_al_rcmd w)
theorem S_al_R (h : Bool) : Instr.alloc 41 h v = alS 41 h v := al_S _ _ _
theorem runS_al_R : (alS 41 true (.tuple #[])).run Try.prog w = .ok (.pointer (some ⟨w.heap.size, 0, none⟩)) (w.alloc (.cells (rL idZ 0 ⟨#[]⟩ false).toArray 41)) := of_value (run_al_R w)
theorem S_eq_id : binOp .eql 23 a b = eqS .eql 23 a b := eq_S _ _ _ _
theorem runS_eq_id (h1 : isBytes a 32) (h2 : isBytes b 32) : (eqS .eql 23 a b).run Try.prog w = .ok (.bool ((bytesOf a == bytesOf b))) w := by
  obtain ⟨la, rfl, ha⟩ := h1
  obtain ⟨lb, rfl, hb⟩ := h2
  obtain ⟨i, hi, _⟩ := Option.map_eq_some_iff.1 Try.byte_info
  simp [eqS, run_eql_struct, show (Op.equalIn 10000 23 (.agg (byteCells la).toArray) (.agg (byteCells lb).toArray)).run Try.prog w = _ from run_equal_bytes w 9998 Try.underlying23 Try.underlying5 hi Try.byte_cells la lb ha hb, bytesOf_mk]
theorem S_ne_id : binOp .neq 23 a b = eqS .neq 23 a b := eq_S _ _ _ _
theorem runS_ne_id (h1 : isBytes a 32) (h2 : isBytes b 32) : (eqS .neq 23 a b).run Try.prog w = .ok (.bool (!(bytesOf a == bytesOf b))) w := by
  obtain ⟨la, rfl, ha⟩ := h1
  obtain ⟨lb, rfl, hb⟩ := h2
  obtain ⟨i, hi, _⟩ := Option.map_eq_some_iff.1 Try.byte_info
  simp [eqS, run_neq_struct, show (Op.equalIn 10000 23 (.agg (byteCells la).toArray) (.agg (byteCells lb).toArray)).run Try.prog w = _ from run_equal_bytes w 9998 Try.underlying23 Try.underlying5 hi Try.byte_cells la lb ha hb, bytesOf_mk]
theorem guard_id (op : BinOp) (h1 : isBytes a 32) (h2 : isBytes b 32) : (eqGuard op 23 x y a b).run Try.prog w = .ok () w := by
  obtain ⟨la, rfl, _⟩ := h1
  obtain ⟨lb, rfl, _⟩ := h2
  exact run_eqGuard_agg w op 23 x y _ _ (by kernel_rfl)
theorem runS_bd_recv2 (h0 : isBytes a 32) (h1 : isInt b) : (bdS 64 #[(0, a), (1, b)]).run Try.prog w = .ok (.agg (vL (toId (bytesOf a)) (intOf' b) (.pointer none) (.slice none 0 0) false).toArray) w := of_value (run_bd_recv2 w a b h0 h1)
theorem runS_bd_recv3 (h0 : isBytes a 32) (h1 : isInt b) (h2 : isBool c) : (bdS 64 #[(0, a), (1, b), (3, c)]).run Try.prog w = .ok (.agg (vL (toId (bytesOf a)) (intOf' b) (.pointer none) (.slice none 0 0) (boolOf c)).toArray) w := of_value (run_bd_recv3 w a b c h0 h1 h2)
theorem runS_bd_send (h0 : isBytes a 32) (h1 : isStr b) (h2 : isInt c) (h3 : isInt d) : (bdS 74 #[(0, a), (1, b), (2, c), (3, d)]).run Try.prog w = .ok (.agg (sL (toId (bytesOf a)) (strOf b) (intOf' c) (intOf' d) false).toArray) w := of_value (run_bd_send w a b c d h0 h1 h2 h3)
theorem runS_bd_cmd4 (h0 : isInt a) (h1 : isBytes b 32) (h2 : isInt c) (h3 : isStr d) : (bdS 34 #[(0, a), (2, b), (4, c), (7, d)]).run Try.prog w = .ok (.agg (cL (intOf' a) ⟨#[]⟩ (toId (bytesOf b)) 0 (intOf' c) 0 0 (strOf d)).toArray) w := of_value (run_bd_cmd4 w a b c d h0 h1 h2 h3)
theorem runS_bd_cmd2 (h0 : isInt a) (h1 : isBytes b 32) : (bdS 34 #[(0, a), (2, b)]).run Try.prog w = .ok (.agg (cL (intOf' a) ⟨#[]⟩ (toId (bytesOf b)) 0 0 0 0 ⟨#[]⟩).toArray) w := of_value (run_bd_cmd2 w a b h0 h1)
theorem runS_bd_cmd0  : (bdS 34 #[]).run Try.prog w = .ok (.agg (cL 0 ⟨#[]⟩ idZ 0 0 0 0 ⟨#[]⟩).toArray) w := of_value (run_bd_cmd0 w  )
theorem runS_bd_rcmd (h0 : isInt a) (h1 : isBytes b 32) (h2 : isStr c) : (bdS 31 #[(0, a), (1, b), (3, c)]).run Try.prog w = .ok (.agg (kL (intOf' a) (toId (bytesOf b)) 0 (strOf c)).toArray) w := of_value (run_bd_rcmd w a b c h0 h1 h2)
theorem runS_bd_R (h0 : isBytes a 32) (h1 : isInt b) : (bdS 41 #[(0, a), (1, b)]).run Try.prog w = .ok (.agg (rL (toId (bytesOf a)) (intOf' b) ⟨#[]⟩ false).toArray) w := of_value (run_bd_R w a b h0 h1)
theorem runS_bd_one : (bdS 23 #[(0, .int .u8 1)]).run Try.prog w = .ok (.agg (byteCells idOne.1).toArray) w := of_value (run_bd_one w  )
theorem S_bd_recv (ps : Array (Nat × Value)) : Instr.build 64 ps = bdS 64 ps := bd_S _ _
theorem S_bd_send (ps : Array (Nat × Value)) : Instr.build 74 ps = bdS 74 ps := bd_S _ _
theorem S_bd_cmd (ps : Array (Nat × Value)) : Instr.build 34 ps = bdS 34 ps := bd_S _ _
theorem S_bd_rcmd (ps : Array (Nat × Value)) : Instr.build 31 ps = bdS 31 ps := bd_S _ _
theorem S_bd_R (ps : Array (Nat × Value)) : Instr.build 41 ps = bdS 41 ps := bd_S _ _
theorem S_bd_id (ps : Array (Nat × Value)) : Instr.build 23 ps = bdS 23 ps := bd_S _ _
end
end Go.Proofs.Ytoeapcfnbomlgaa
