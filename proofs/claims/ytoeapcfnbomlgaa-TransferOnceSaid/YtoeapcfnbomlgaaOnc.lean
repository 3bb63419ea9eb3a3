/- TransferOnce holds: for every identity, text, number and list of attempts the law returns true, and each argument reads as before.
   Conditions: none. -/
import Derived.Test.YtoeapcfnbomlgaaLift
import Derived.Test.YtoeapcfnbomlgaaTrH
namespace Go.Proofs.Ytoeapcfnbomlgaa
open Go.ChangeShapes Go.WideShapes Go.ChangeAt Go.RowKit Go.Lib

section
variable {H : Type} {enc : TypeId × Value → H} {w : World} {base : Nat} {spare : Nat → Bool} {held : Bool}

/-- A bulletinlaw32.Attempt, opened. -/
theorem open_att {fuel : Nat} {cs : List Value} {x : DataW H × List MemPlace} (h : DataW.trod enc Try.prog w base spare held fuel 52 cs = some x) :
    ∃ (ch ar v : Int) (id : Id) (fr : Int) (t : ByteArray) (d1 : DataW H), cs[0]? = some (.int .u16 ch) ∧ cs[1]? = some (.int .u8 ar) ∧ (cs.drop 2).take 35 = kL v id fr t ∧ (0 ≤ ch ∧ ch ≤ 65535) ∧ (0 ≤ ar ∧ ar ≤ 255) ∧ (-9223372036854775808 ≤ fr ∧ fr ≤ 9223372036854775807) ∧
      x.1 = .agg [.lit (.int .u16 ch), .lit (.int .u8 ar), .agg [.lit (.int .i64 v), d1, .lit (.int .i64 fr), .lit (.string t.data.toList)]] := by
  obtain ⟨xs, m, rfl, rfl, hl, hx, hf⟩ := DataW.trod_struct Try.underlying52 h
  have c48 : Try.prog.cellsOf 48 = 1 := by kernel_rfl
  have c5 : Try.prog.cellsOf 5 = 1 := by kernel_rfl
  have c31 : Try.prog.cellsOf 31 = 35 := by kernel_rfl
  have hxl : xs.length = 3 := hx
  match xs, hxl with
  | [x0, x1, x2], _ =>
  have h0 : DataW.trod enc Try.prog w base spare held m 48 ((cs.drop 0).take (Try.prog.cellsOf 48)) = some x0 := hf 0 _ rfl
  have h1 : DataW.trod enc Try.prog w base spare held m 5 ((cs.drop 1).take (Try.prog.cellsOf 5)) = some x1 := hf 1 _ rfl
  have h2 : DataW.trod enc Try.prog w base spare held m 31 ((cs.drop 2).take (Try.prog.cellsOf 31)) = some x2 := hf 2 _ rfl
  rw [c48] at h0
  rw [c5] at h1
  rw [c31] at h2
  obtain ⟨ch, e0, r0, w0⟩ := DataW.trod_int Try.underlying48 h0
  obtain ⟨ar, e1, r1, w1⟩ := DataW.trod_int Try.underlying5 h1
  obtain ⟨v, id, fr, t, d1, e2, hv, hfr, hd⟩ := open_kcmd h2
  refine ⟨ch, ar, v, id, fr, t, d1, take1 e0, take1 e1, e2, bounds_u16 w0, bounds_u8 w1, hfr, ?_⟩
  subst r0; subst r1
  show DataW.agg [_, _, x2.1] = _
  rw [hd]

theorem add_two (a : Addr) (i : Nat) : (⟨a.block, a.off + 2, none⟩ : Addr).add i = a.add (2 + i) := by
  cases i with
  | zero => rfl
  | succ i =>
    have e : 2 + (i + 1) = (i + 2) + 1 := by omega
    rw [e]
    show (⟨a.block, a.off + 2 + (i + 1), none⟩ : Addr) = ⟨a.block, a.off + (i + 2 + 1), none⟩
    congr 1
    omega

theorem att_cells {a : Addr} {cs : List Value} {l : List Value} (h : w.cells? base a 37 = some cs) (hd : (cs.drop 2).take 35 = l) :
    w.cell? a = cs[0]? ∧ w.cell? ⟨a.block, a.off + 1, none⟩ = cs[1]? ∧ aggAt w ⟨a.block, a.off + 2, none⟩ 35 = l ∧ hasAt w ⟨a.block, a.off + 2, none⟩ 35 := by
  obtain ⟨_, hl, hc⟩ := World.cells?_some h
  refine ⟨hc 0 (by omega), hc 1 (by omega), ?_, fun i hi => ?_⟩
  · subst hd
    refine List.ext_getElem? fun i => ?_
    unfold aggAt
    rw [List.getElem?_map]
    by_cases hi : i < 35
    · rw [List.getElem?_range hi, Option.map_some, add_two, hc (2 + i) (by omega), List.getElem?_eq_getElem (by omega), List.getElem?_take, if_pos hi, List.getElem?_drop, List.getElem?_eq_getElem (by omega)]
      rfl
    · rw [List.getElem?_eq_none (by simp; omega), List.getElem?_eq_none (by simp; omega)]; rfl
  · rw [add_two, hc (2 + i) (by omega), List.getElem?_eq_getElem (by omega)]; rfl

/-- A []bulletinlaw32.Attempt, opened. -/
theorem open_atts {fuel : Nat} {cs : List Value} {x : DataW H × List MemPlace} (h : DataW.trod enc Try.prog w base spare held fuel 49 cs = some x)
    (hs : ∀ n ∈ x.1.weights Try.prog 49, n ≤ reachBytes) :
    ∃ (A : Option Addr) (len cap : Nat) (E : Nat → (Int × Int) × (Int × Id × Int × ByteArray)), cs = [.slice A len cap] ∧ len ≤ 9223372036854775807 ∧ Atts A len E w := by
  rcases Deep.open_slice Try.underlying49 h with ⟨rfl, rfl⟩ | ⟨a, len, cap, m, n, D, Pl, rfl, hb, hl, hm, hmm, rfl, hx⟩
  · exact ⟨none, 0, 0, fun _ => ((0, 0), (0, idZ, 0, ⟨#[]⟩)), rfl, by omega, ⟨fun h => by omega, fun _ _ h => by omega, fun _ _ h => by omega, fun _ h => by omega⟩⟩
  have hc : Try.prog.cellsOf 52 = 37 := by kernel_rfl
  rw [hc] at hx
  have hlm : len ≤ m := by rw [hmm]; split <;> omega
  have key : ∀ i, i < len → ∃ e : (Int × Int) × (Int × Id × Int × ByteArray),
      ((w.cell? (a.add (i * 37)) = some (.int .u16 e.1.1) ∧ w.cell? ⟨(a.add (i * 37)).block, (a.add (i * 37)).off + 1, none⟩ = some (.int .u8 e.1.2)) ∧
      (aggAt w ⟨(a.add (i * 37)).block, (a.add (i * 37)).off + 2, none⟩ 35 = kL e.2.1 e.2.2.1 e.2.2.2.1 e.2.2.2.2 ∧ hasAt w ⟨(a.add (i * 37)).block, (a.add (i * 37)).off + 2, none⟩ 35)) ∧
      (0 ≤ e.1.1 ∧ e.1.1 ≤ 65535 ∧ 0 ≤ e.1.2 ∧ e.1.2 ≤ 255 ∧ e.2.2.2.2.size ≤ 140737488355328 ∧ -9223372036854775808 ≤ e.2.2.2.1 ∧ e.2.2.2.1 ≤ 9223372036854775807) := by
    intro i hi
    obtain ⟨cs', hcs, htr⟩ := hx i (by omega)
    obtain ⟨ch, ar, v, id, fr, t, d1, e0, e1, e2, hch, har, hfr, hd⟩ := open_att htr
    obtain ⟨q0, q1, q2, q3⟩ := att_cells hcs e2
    refine ⟨((ch, ar), (v, id, fr, t)), ⟨⟨q0.trans e0, q1.trans e1⟩, q2, q3⟩, hch.1, hch.2, har.1, har.2, ?_, hfr⟩
    have hw : t.data.toList.length ∈ (D i).weights Try.prog 52 := by
      have hd' : D i = .agg [.lit (.int .u16 ch), .lit (.int .u8 ar), .agg [.lit (.int .i64 v), d1, .lit (.int .i64 fr), .lit (.string t.data.toList)]] := hd
      rw [hd']
      unfold DataW.weights
      rw [Try.underlying52]
      refine DataW.weights_mem_each (j := 2) rfl rfl _ ?_
      show _ ∈ DataW.weights Try.prog 31 _
      unfold DataW.weights
      rw [Try.underlying31]
      exact DataW.weights_mem_each (j := 3) rfl rfl _ (by unfold DataW.weights; exact List.mem_singleton.2 rfl)
    have h2 : t.data.toList.length ≤ reachBytes := hs _ (by
      show _ ∈ DataW.weights _ _ (DataW.slice _ _)
      unfold DataW.weights
      rw [Try.underlying49]
      refine List.mem_cons_of_mem _ (List.mem_append.2 (Or.inl (weightsAll_mem (List.mem_map.2 ⟨i, List.mem_range.2 hi, rfl⟩) _ hw))))
    have h3 := reachBytes_lt
    have h4 : t.data.toList.length = t.size := by simp
    show t.size ≤ _
    omega
  have inh : Inhabited ((Int × Int) × (Int × Id × Int × ByteArray)) := ⟨((0, 0), (0, idZ, 0, ⟨#[]⟩))⟩
  obtain ⟨E, hE⟩ := Deep.choose_lt key
  refine ⟨some a, len, cap, E, rfl, ?_, ⟨fun h => ⟨a, rfl, ?_⟩, fun k ad hk ha => ?_, fun k ad hk ha => ?_, fun k hk => (hE k hk).2⟩⟩
  · have : maxLen ≤ 9223372036854775807 := by decide
    omega
  · have := (hE 0 h).1.1.1
    rw [Nat.zero_mul] at this
    by_cases hlt : a.block < w.heap.size
    · exact hlt
    · simp [World.cell?, Addr.add, Array.getElem?_eq_none (Nat.le_of_not_lt hlt)] at this
  · injection ha with ha
    subst ha
    exact (hE k hk).1.1
  · injection ha with ha
    subst ha
    exact (hE k hk).1.2
end

theorem atts_arg {H : Type} {enc : TypeId × Value → H} {w : World} {r : Reach} {base b0 : Nat} {spare : Nat → Bool} {held : Bool} {v : Value} {d : DataW H} {ps : List MemPlace} (hval : Value.okWide Try.prog w r b0 49 v)
    (h : DataW.Trod enc Try.prog w base spare held 49 v d ps) (hs : ∀ n ∈ d.weights Try.prog 49, n ≤ reachBytes) :
    ∃ (A : Option Addr) (len cap : Nat) (E : Nat → (Int × Int) × (Int × Id × Int × ByteArray)), v = .slice A len cap ∧ len ≤ 9223372036854775807 ∧ Atts A len E w := by
  obtain ⟨a0, l0, c0, rfl⟩ := okWide_slice Try.underlying49 hval
  obtain ⟨fuel, hf⟩ := h
  obtain ⟨A, len, cap, E, he, hl, hC⟩ := open_atts hf hs
  refine ⟨A, len, cap, E, ?_, hl, hC⟩
  simp only [Value.cells, List.cons.injEq, and_true] at he
  exact he

set_option maxRecDepth 100000 in
theorem transferOnce_lifted (os : Os) (started : os.Started) (H : Type) (enc : TypeId × Value → H) :
    ReturnsInHanded {} Try.checked os 5 .any (Rows.transferOnceSpec.pre6 enc Try.prog Try.f5 Rows.transferOnceRow.domain false) (Rows.transferOnceSpec.post enc Try.prog Try.f5 false true false false) := by
  refine returnsInHanded_of_change_sized (C := Try.checked) Try.own started (by kernel_rfl) Try.func5
    (ChangeSpec.witness6 (enc := enc) (C := Try.checked) false ⟨#[], #[.agg (Array.replicate 32 (.int .u8 0)), .string ⟨#[]⟩, .int .u16 0, .slice none 0 0], []⟩ 8 (by kernel_rfl) (by kernel_rfl) (by kernel_rfl) (by kernel_rfl)) ?_
  intro W base args ds gs before hval0 hW hcnd hsz0 _
  have hval : ∀ (j : Nat) t v, Try.f5.params[j]? = some t → args[j]? = some v → Value.okWide Try.prog W .any base t v := hval0
  have hW' := hW
  have hltb : ∀ x ∈ before, x.block < W.heap.size := fun x hx => hW.lt x hx
  have hsz : (DataW.weightsEach Try.prog (Try.f5.params.toList ++ []) (ds ++ gs)).all (· ≤ reachBytes) = true := hsz0
  obtain ⟨p, q, hA0, hV, rfl, hfz, hnd⟩ := hW
  have hA : DataW.TrodAll enc Try.prog W 0 (fun _ => true) true Try.f5.params.toList args.toList ds p := hA0
  rw [Try.params5] at hA hval hsz
  obtain ⟨v0, v1, v2, v3, d0, d1, d2, d3, p0, p1, p2, p3, rfl, rfl, rfl, h0, h1, h2, h3⟩ := trodAll_four hA
  obtain ⟨rfl, rfl⟩ := trodVars_none hV
  obtain ⟨id, rfl⟩ := id_arg (hval 0 23 v0 rfl rfl) h0
  obtain ⟨text, rfl, rfl, rfl, _⟩ := Go.ChangeMaps.open_string Try.underlying9 (hval 1 9 v1 rfl rfl) h1
  obtain ⟨n, rfl, rfl, rfl, hw2⟩ := open_int Try.underlying48 (hval 2 48 v2 rfl rfl) h2
  obtain ⟨A, len, cap, E, rfl, hlen, hC⟩ := atts_arg (hval 3 49 v3 rfl rfl) h3 (fun n hn => by
    have := List.all_eq_true.1 hsz n (DataW.weights_mem_each (j := 3) rfl rfl n hn)
    simpa using this)
  have hn2 := bounds_u16 hw2
  have key : Calls Try.prog 5 #[.agg (byteCells id.1).toArray, .string text, .int .u16 n, .slice A len cap] W fun e w' => e = .returned (.bool true) ∧ Kept (fun _ => False) W w' := by
    by_cases ht : text.size ≤ 300
    · by_cases hl : len ≤ 20
      · exact once_run W hC ht hl hn2.1 hn2.2
      · exact once_known W (Or.inr ⟨ht, by omega⟩)
    · exact once_known W (Or.inl (by omega))
  clear hA0 hval0 hsz0
  simp only [List.append_nil] at hW' hltb
  refine key.mono fun e W' ⟨he, hk⟩ => ?_
  subst he
  have hb : Below W.heap.size W W' := hk.below (fun _ _ _ f => f) (Nat.le_refl _)
  refine ⟨_, rfl, post_of_below (pa := p0 ++ ([] ++ ([] ++ p3))) (pv := []) hW' (fun _ _ _ => trodAll_mk1 (shut_bool Try.underlying4 true)) (fun sp hsp => ?_) (fun _ _ => rfl) (by simp) hb (ok_one (by kernel_rfl) rfl (okWide_bool_mk Try.underlying4 _))⟩
  refine trodAll_mk4 ?_ ?_ ?_ ?_
  · exact WideElems.Trod_stays Try.laidOut (by kernel_rfl) (of_decide_eq_true (by kernel_rfl)) h0 (fun x hx => hb.same (hltb x (by simp [hx]))) (fun x hx => hsp x (by simp [hx]))
  · exact WideElems.Trod_stays Try.laidOut (by kernel_rfl) (of_decide_eq_true (by kernel_rfl)) h1 (fun x hx => by cases hx) (fun x hx => by cases hx)
  · exact shut_int Try.underlying48 hw2
  · exact WideElems.Trod_stays Try.laidOut (by kernel_rfl) (of_decide_eq_true (by kernel_rfl)) h3 (fun x hx => hb.same (hltb x (by simp [hx]))) (fun x hx => hsp x (by simp [hx]))

theorem transferOnce_holds : Rows.TransferOnceSaid :=
  OpenClaim.holds_of_wide 5 Try.f5 rfl rfl rfl rfl rfl rfl rfl ⟨rfl, rfl, rfl, rfl, rfl⟩ rfl rfl rfl rfl rfl (by kernel_rfl) Try.func5 (by kernel_rfl)
    (of_decide_eq_true (by kernel_rfl)) (by unfold Func.isWrapper; rw [if_neg (of_decide_eq_false (by kernel_rfl))]; exact ⟨rfl, rfl⟩)
    (fun os started H enc _ => transferOnce_lifted os started H enc)

end Go.Proofs.Ytoeapcfnbomlgaa
