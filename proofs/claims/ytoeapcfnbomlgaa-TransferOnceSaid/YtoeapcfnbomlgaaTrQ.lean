/- '==' of two commands, over this translation.
   Conditions: none. -/
import Derived.Test.YtoeapcfnbomlgaaTr1
namespace Go.Proofs.Ytoeapcfnbomlgaa
open Go.RowKit Go.Lib

theorem cL_extract {a b c d e f g} {id : Id} : (cL a b id c d e f g).toArray.extract 2 34 = (byteCells id.1).toArray := by
  simp [cL, byteCells, List.extract_toArray, id.2]

theorem cL_at {a b c d e f g} {id : Id} : (cL a b id c d e f g)[1]? = some (.string b) ∧ (cL a b id c d e f g)[34]? = some (.int .i64 c) ∧ (cL a b id c d e f g)[36]? = some (.int .i64 e) ∧ (cL a b id c d e f g)[37]? = some (.int .i64 f) := by
  refine ⟨rfl, ?_, ?_, ?_⟩ <;> simp [cL, byteCells, List.getElem?_cons, List.getElem?_append, id.2]

theorem part_one {P : Program} (w : World) {T : TypeId} {d : TypeDesc} {C : Array Value} {o : Nat} {x : Value} (hu : P.underlying T = some d) (hd : d.isRow = false) (h : C[o]? = some x) : (part T C o).run P w = .ok x w := by
  have hagg : (isAgg T).run P w = .ok false w := by
    unfold isAgg
    rw [Sem.run_bind, run_underlying hu w]
    cases d <;> simp_all
  simp [part, hagg, Sem.run_bind, h]
theorem part_agg {P : Program} (w : World) {T : TypeId} {d : TypeDesc} {C : Array Value} {o n : Nat} (hu : P.underlying T = some d) (hd : d.isRow = true) (hi : (P.info? T).map (·.size) = some n) : (part T C o).run P w = .ok (.agg (C.extract o (o + n))) w := by
  have hagg : (isAgg T).run P w = .ok true w := by
    unfold isAgg
    rw [Sem.run_bind, run_underlying hu w]
    cases d <;> simp_all
  cases hq : P.info? T with
  | none => simp [hq] at hi
  | some i =>
    have hs : i.size = n := by simpa [hq] using hi
    simp [part, hagg, Sem.run_bind, sizeOf, typeInfo, hq, hs]

set_option maxHeartbeats 1000000 in
theorem equal_cmd (m : Nat) (w : World) (v : Int) (nm : ByteArray) (id : Id) (a b c d : Int) (t : ByteArray) :
    (Op.equalIn (m + 1 + 1 + 1) 34 (.agg (cL v nm id a b c d t).toArray) (.agg (cL v nm id a b c d t).toArray)).run Try.prog w = .ok true w := by
  obtain ⟨i, hi, _⟩ := Option.map_eq_some_iff.1 Try.byte_info
  obtain ⟨h1, h34, h36, h37⟩ := cL_at (a := v) (b := nm) (c := a) (d := b) (e := c) (f := d) (g := t) (id := id)
  have tI : ∀ {o : Nat} {z : Int}, (cL v nm id a b c d t)[o]? = some (.int .i64 z) → (part 3 (cL v nm id a b c d t).toArray o).run Try.prog w = .ok (.int .i64 z) w := fun h => part_one w Try.underlying3 rfl (by rw [List.getElem?_toArray]; exact h)
  have tE : ∀ {o : Nat} {z : Int}, (cL v nm id a b c d t)[o]? = some (.int .i64 z) → (part 27 (cL v nm id a b c d t).toArray o).run Try.prog w = .ok (.int .i64 z) w := fun h => part_one w Try.underlying27 rfl (by rw [List.getElem?_toArray]; exact h)
  have tS : ∀ {o : Nat} {z : ByteArray}, (cL v nm id a b c d t)[o]? = some (.string z) → (part 9 (cL v nm id a b c d t).toArray o).run Try.prog w = .ok (.string z) w := fun h => part_one w Try.underlying9 rfl (by rw [List.getElem?_toArray]; exact h)
  have tA : (part 23 (cL v nm id a b c d t).toArray 2).run Try.prog w = .ok (.agg (byteCells id.1).toArray) w := by
    rw [part_agg w Try.underlying23 rfl (n := 32) (by kernel_rfl), cL_extract]
  have eI : ∀ (z : Int), (Op.equalIn (m + 1 + 1) 3 (.int .i64 z) (.int .i64 z)).run Try.prog w = .ok true w := fun z => by rw [run_equalIn_int w (m + 1) _ _ _ _ _ Try.underlying3]; simp
  have eE : ∀ (z : Int), (Op.equalIn (m + 1 + 1) 27 (.int .i64 z) (.int .i64 z)).run Try.prog w = .ok true w := fun z => by rw [run_equalIn_int w (m + 1) _ _ _ _ _ Try.underlying27]; simp
  have eS : ∀ (z : ByteArray), (Op.equalIn (m + 1 + 1) 9 (.string z) (.string z)).run Try.prog w = .ok true w := fun z => by rw [run_equalIn_string w (m + 1) _ _ _ Try.underlying9]; simp
  have eA : (Op.equalIn (m + 1 + 1) 23 (.agg (byteCells id.1).toArray) (.agg (byteCells id.1).toArray)).run Try.prog w = .ok true w := by
    rw [run_equal_bytes w m Try.underlying23 Try.underlying5 hi Try.byte_cells id.1 id.1 id.2 id.2]; simp
  rw [run_equalIn_struct w (m + 1 + 1) 34 _ _ (by kernel_rfl) (by kernel_rfl)]
  unfold Program.fieldsOf
  rw [Try.underlying34]
  show (Op.eqFields (m + 1 + 1) _ _ [_, _, _, _, _, _, _, _]).run Try.prog w = _
  rw [eqFields_true w (by decide) (tI cL_0) (tI cL_0) (eI _), eqFields_true w (by decide) (tS h1) (tS h1) (eS _), eqFields_true w (by decide) tA tA eA, eqFields_true w (by decide) (tI h34) (tI h34) (eI _),
    eqFields_true w (by decide) (tI cL_35) (tI cL_35) (eI _), eqFields_true w (by decide) (tI h36) (tI h36) (eI _), eqFields_true w (by decide) (tE h37) (tE h37) (eE _), eqFields_true w (by decide) (tS cL_38) (tS cL_38) (eS _)]
  rfl
theorem run_eq_cmd (w : World) (x y : Operand) (v : Int) (nm : ByteArray) (id : Id) (a b c d : Int) (t : ByteArray) :
    (eqAgg .eql 34 x y (.agg (cL v nm id a b c d t).toArray) (.agg (cL v nm id a b c d t).toArray)).run Try.prog w = .ok (.value (.bool true)) w := by
  have h := equal_cmd 9997 w v nm id a b c d t
  simp only [Nat.reduceAdd] at h
  simp only [eqAgg, Sem.run_bind, run_eqGuard_agg w .eql 34 x y _ _ (show Try.prog.eqGuardType Try.prog.depth 34 = false by kernel_rfl), Result.andThen_ok, run_eql_struct, h, Sem.run_pure]
theorem S_eq_cmd (a b : Value) : binOp .eql 34 a b = eqS .eql 34 a b := eq_S _ _ _ _
theorem runS_eq_cmd (w : World) (v : Int) (nm : ByteArray) (id : Id) (a b c d : Int) (t : ByteArray) :
    (eqS .eql 34 (.agg (cL v nm id a b c d t).toArray) (.agg (cL v nm id a b c d t).toArray)).run Try.prog w = .ok (.bool true) w := by
  have h := equal_cmd 9997 w v nm id a b c d t
  simp only [Nat.reduceAdd] at h
  simp only [eqS, run_eql_struct, h, Result.andThen_ok]
theorem guard_cmd (w : World) (op : BinOp) (x y : Operand) (C D : Array Value) : (eqGuard op 34 x y (.agg C) (.agg D)).run Try.prog w = .ok () w := run_eqGuard_agg w op 34 x y _ _ (by kernel_rfl)
end Go.Proofs.Ytoeapcfnbomlgaa
