/- The arguments of the transfer laws opened: an identity is 32 bytes; a slice of commands is cells of four fields, whose texts are no longer than the reach.
   Conditions: none. -/
import Derived.Test.YtoeapcfnbomlgaaTrP
import Derived.ProofKit
import Derived.SizedLaws
import Derived.Deep.Slices
namespace Go.Proofs.Ytoeapcfnbomlgaa
open Go.ChangeShapes Go.WideShapes Go.ChangeAt Go.RowKit Go.Lib

section
variable {H : Type} {enc : TypeId × Value → H} {w : World} {base : Nat} {spare : Nat → Bool} {held : Bool}

theorem take1 {α : Type} {l : List α} {i : Nat} {x : α} (h : (l.drop i).take 1 = [x]) : l[i]? = some x := by
  have : ((l.drop i).take 1)[0]? = some x := by rw [h]; rfl
  simpa using this

/-- An api.Id, opened. -/
theorem open_id {fuel : Nat} {cs : List Value} {x : DataW H × List MemPlace} (h : DataW.trod enc Try.prog w base spare held fuel 23 cs = some x) : ∃ id : Id, cs = byteCells id.1 := by
  obtain ⟨xs, m, rfl, rfl, hl, hx, hi⟩ := DataW.trod_array Try.underlying23 h
  have hc : Try.prog.cellsOf 23 = 32 := by kernel_rfl
  have he : Try.prog.cellsOf 5 = 1 := by kernel_rfl
  rw [hc] at hl
  have key : ∀ i, i < 32 → ∃ b : UInt8, cs[i]? = some (.int .u8 b.toNat) := by
    intro i hi32
    have h1 := hi i hi32
    rw [he, Nat.mul_one, List.getElem?_eq_getElem (by omega)] at h1
    obtain ⟨n, hn, _, hw⟩ := DataW.trod_int Try.underlying5 h1
    have hb := bounds_u8 hw
    refine ⟨UInt8.ofNat n.toNat, (take1 hn).trans ?_⟩
    congr 2
    rw [UInt8.toNat_ofNat']
    omega
  refine ⟨⟨cs.map fun v => match v with | .int _ n => UInt8.ofNat n.toNat | _ => 0, by simp [hl]⟩, ?_⟩
  unfold byteCells
  rw [List.map_map]
  refine List.ext_getElem? fun i => ?_
  rw [List.getElem?_map]
  by_cases hi32 : i < 32
  · obtain ⟨b, hb⟩ := key i hi32
    rw [hb]
    simp
  · rw [List.getElem?_eq_none (by omega)]; rfl

/-- A bulletinref32.Command, opened. -/
theorem open_kcmd {fuel : Nat} {cs : List Value} {x : DataW H × List MemPlace} (h : DataW.trod enc Try.prog w base spare held fuel 31 cs = some x) :
    ∃ (v : Int) (id : Id) (fr : Int) (t : ByteArray) (d1 : DataW H), cs = kL v id fr t ∧ (-9223372036854775808 ≤ v ∧ v ≤ 9223372036854775807) ∧ (-9223372036854775808 ≤ fr ∧ fr ≤ 9223372036854775807) ∧
      x.1 = .agg [.lit (.int .i64 v), d1, .lit (.int .i64 fr), .lit (.string t.data.toList)] := by
  obtain ⟨xs, m, rfl, rfl, hl, hx, hf⟩ := DataW.trod_struct Try.underlying31 h
  have hc : Try.prog.cellsOf 31 = 35 := by kernel_rfl
  have c3 : Try.prog.cellsOf 3 = 1 := by kernel_rfl
  have c23 : Try.prog.cellsOf 23 = 32 := by kernel_rfl
  have c9 : Try.prog.cellsOf 9 = 1 := by kernel_rfl
  rw [hc] at hl
  have hxl : xs.length = 4 := hx
  match xs, hxl with
  | [x0, x1, x2, x3], _ =>
  have h0 : DataW.trod enc Try.prog w base spare held m 3 ((cs.drop 0).take (Try.prog.cellsOf 3)) = some x0 := hf 0 _ rfl
  have h1 : DataW.trod enc Try.prog w base spare held m 23 ((cs.drop 1).take (Try.prog.cellsOf 23)) = some x1 := hf 1 _ rfl
  have h2 : DataW.trod enc Try.prog w base spare held m 3 ((cs.drop 33).take (Try.prog.cellsOf 3)) = some x2 := hf 2 _ rfl
  have h3 : DataW.trod enc Try.prog w base spare held m 9 ((cs.drop 34).take (Try.prog.cellsOf 9)) = some x3 := hf 3 _ rfl
  rw [c3] at h0 h2
  rw [c23] at h1
  rw [c9] at h3
  obtain ⟨v, e0, r0, w0⟩ := DataW.trod_int Try.underlying3 h0
  obtain ⟨id, e1⟩ := open_id h1
  obtain ⟨fr, e2, r2, w2⟩ := DataW.trod_int Try.underlying3 h2
  obtain ⟨t, e3, r3, w3⟩ := DataW.trod_string Try.underlying9 h3
  refine ⟨v, id, fr, t, x1.1, ?_, bounds_i64 w0, bounds_i64 w2, ?_⟩
  · have s0 := take1 e0
    have s2 := take1 e2
    have s3 := take1 e3
    unfold kL
    rw [← e1]
    rw [List.drop_zero] at e0
    have q0 : cs = cs.take 1 ++ cs.drop 1 := (List.take_append_drop 1 cs).symm
    have q1 : cs.drop 1 = (cs.drop 1).take 32 ++ cs.drop 33 := by
      have := (List.take_append_drop 32 (cs.drop 1)).symm
      rw [List.drop_drop] at this
      exact this
    have q2 : cs.drop 33 = [.int .i64 fr, .string t] := by
      refine List.ext_getElem? fun i => ?_
      rw [List.getElem?_drop]
      match i with
      | 0 => rw [s2]; rfl
      | 1 => rw [s3]; rfl
      | i + 2 => rw [List.getElem?_eq_none (by omega)]; rfl
    calc cs = cs.take 1 ++ cs.drop 1 := q0
      _ = [.int .i64 v] ++ ((cs.drop 1).take 32 ++ cs.drop 33) := by rw [e0, ← q1]
      _ = _ := by rw [q2, List.append_assoc]
  · subst r0; subst r2; subst r3
    rfl

theorem aggAt_cells {a : Addr} {n : Nat} {cs : List Value} (h : w.cells? base a n = some cs) : aggAt w a n = cs ∧ hasAt w a n := by
  obtain ⟨_, hl, hc⟩ := World.cells?_some h
  refine ⟨List.ext_getElem? fun i => ?_, fun i hi => ?_⟩
  · unfold aggAt
    rw [List.getElem?_map]
    by_cases hi : i < n
    · rw [List.getElem?_range hi]
      rw [Option.map_some, hc i hi, List.getElem?_eq_getElem (by omega)]
      rfl
    · rw [List.getElem?_eq_none (by simp; omega), List.getElem?_eq_none (by omega)]; rfl
  · rw [hc i hi, List.getElem?_eq_getElem (by omega)]; rfl

theorem weightsAll_mem {P : Program} {e : TypeId} : ∀ {l : List (DataW H)} {d : DataW H}, d ∈ l → ∀ n ∈ d.weights P e, n ∈ DataW.weightsAll P e l
  | [], _, h, _, _ => by simp at h
  | d0 :: l, d, h, n, hn => by
    simp only [DataW.weightsAll, List.mem_append]
    rcases List.mem_cons.1 h with rfl | h
    · exact Or.inl hn
    · exact Or.inr (weightsAll_mem h n hn)

/-- A []bulletinref32.Command, opened. -/
theorem open_kcmds {fuel : Nat} {cs : List Value} {x : DataW H × List MemPlace} (h : DataW.trod enc Try.prog w base spare held fuel 24 cs = some x)
    (hs : ∀ n ∈ x.1.weights Try.prog 24, n ≤ reachBytes) :
    ∃ (A : Option Addr) (len cap : Nat) (E : Nat → Int × Id × Int × ByteArray), cs = [.slice A len cap] ∧ len ≤ 9223372036854775807 ∧ Cmds A len E w := by
  rcases Deep.open_slice Try.underlying24 h with ⟨rfl, rfl⟩ | ⟨a, len, cap, m, n, D, Pl, rfl, hb, hl, hm, hmm, rfl, hx⟩
  · exact ⟨none, 0, 0, fun _ => (0, idZ, 0, ⟨#[]⟩), rfl, by omega, ⟨fun h => by omega, fun _ _ h => by omega, fun _ h => by omega⟩⟩
  have hc : Try.prog.cellsOf 31 = 35 := by kernel_rfl
  rw [hc] at hx
  have hlm : len ≤ m := by rw [hmm]; split <;> omega
  have key : ∀ i, i < len → ∃ e : Int × Id × Int × ByteArray, (aggAt w (a.add (i * 35)) 35 = kL e.1 e.2.1 e.2.2.1 e.2.2.2 ∧ hasAt w (a.add (i * 35)) 35) ∧ (e.2.2.2.size ≤ 140737488355328 ∧ -9223372036854775808 ≤ e.2.2.1 ∧ e.2.2.1 ≤ 9223372036854775807) := by
    intro i hi
    obtain ⟨cs', hcs, htr⟩ := hx i (by omega)
    obtain ⟨v, id, fr, t, d1, rfl, hv, hf, hd⟩ := open_kcmd htr
    refine ⟨(v, id, fr, t), aggAt_cells hcs, ?_, hf⟩
    have hw : t.data.toList.length ∈ (D i).weights Try.prog 31 := by
      have hd' : D i = .agg [.lit (.int .i64 v), d1, .lit (.int .i64 fr), .lit (.string t.data.toList)] := hd
      rw [hd']
      unfold DataW.weights
      rw [Try.underlying31]
      exact DataW.weights_mem_each (j := 3) rfl rfl _ (by unfold DataW.weights; exact List.mem_singleton.2 rfl)
    have h2 : t.data.toList.length ≤ reachBytes := hs _ (by
      show _ ∈ DataW.weights _ _ (DataW.slice _ _)
      unfold DataW.weights
      rw [Try.underlying24]
      refine List.mem_cons_of_mem _ (List.mem_append.2 (Or.inl (weightsAll_mem (List.mem_map.2 ⟨i, List.mem_range.2 hi, rfl⟩) _ hw))))
    have h3 := reachBytes_lt
    have h4 : t.data.toList.length = t.size := by simp
    show t.size ≤ _
    omega
  have inh : Inhabited (Int × Id × Int × ByteArray) := ⟨(0, idZ, 0, ⟨#[]⟩)⟩
  obtain ⟨E, hE⟩ := Deep.choose_lt key
  refine ⟨some a, len, cap, E, rfl, ?_, ⟨fun h => ⟨a, rfl, ?_⟩, fun k ad hk ha => ?_, fun k hk => (hE k hk).2⟩⟩
  · have : maxLen ≤ 9223372036854775807 := by decide
    omega
  · have := (hE 0 h).1.2 0 (by omega)
    rw [Nat.zero_mul] at this
    by_cases hlt : a.block < w.heap.size
    · exact hlt
    · simp [World.cell?, Addr.add, Array.getElem?_eq_none (Nat.le_of_not_lt hlt)] at this
  · injection ha with ha
    subst ha
    exact (hE k hk).1
end
end Go.Proofs.Ytoeapcfnbomlgaa
