/- Slices of fields that came in or were made: what they read as; the arguments of the field laws opened.
   Conditions: none. -/
import Derived.Test.YtknamddpflkifaaLift9
import Derived.SizedLaws
import Derived.Deep.Slices
namespace Go.Proofs.Ytknamddpflkifaa
open Go.ChangeShapes Go.WideShapes Go.ChangeAt Go.RowKit Go.Lib

/-- A slice of bulletinref09.F (or field.Field) that reads as fs. -/
structure FldsAt (A : Option Addr) (fs : List (List UInt8 × List UInt8)) (w : World) : Prop where
  at_ : 0 < fs.length → ∃ ad, A = some ad ∧ ad.block < w.heap.size
  cell : ∀ k ad (h : k < fs.length), A = some ad → w.cell? (ad.add (k * 2)) = some (strV fs[k].1) ∧ w.cell? ⟨(ad.add (k * 2)).block, (ad.add (k * 2)).off + 1, none⟩ = some (strV fs[k].2)
  small : ∀ f ∈ fs, f.1.length ≤ 9223372036854775807 ∧ f.2.length ≤ 9223372036854775807

theorem addr_block (a : Addr) (n : Nat) : (a.add n).block = a.block := by unfold Addr.add; split <;> rfl
theorem FldsAt.kept {F : Nat → Prop} {A : Option Addr} {fs : List (List UInt8 × List UInt8)} {w w' : World} (h : FldsAt A fs w) (hk : Kept F w w') (hF : ∀ ad, A = some ad → ¬ F ad.block) : FldsAt A fs w' := by
  refine ⟨fun hl => ?_, fun k ad hk' ha => ?_, h.small⟩
  · obtain ⟨ad, ha, hb⟩ := h.at_ hl
    exact ⟨ad, ha, Nat.lt_of_lt_of_le hb hk.size⟩
  · obtain ⟨ad', ha', hb⟩ := h.at_ (by omega)
    rw [ha] at ha'
    injection ha' with ha'
    subst ha'
    have := h.cell k ad hk' ha
    exact ⟨(hk.cell (p := ad.add (k * 2)) (by rw [addr_block]; exact hb) (by rw [addr_block]; exact hF _ ha)).trans this.1, (hk.cell (p := ⟨(ad.add (k * 2)).block, _, none⟩) (by rw [addr_block]; exact hb) (by show ¬ F (ad.add (k * 2)).block; rw [addr_block]; exact hF _ ha)).trans this.2⟩
theorem FldsAt.below {A : Option Addr} {fs : List (List UInt8 × List UInt8)} {w w' : World} (h : FldsAt A fs w) (hb : Below w.heap.size w w') : FldsAt A fs w' := h.kept (kept_of_below hb) (fun _ _ f => f)
theorem FldsAt.nil {A : Option Addr} {w : World} : FldsAt A [] w := ⟨fun h => absurd h (by decide), fun k _ h => absurd h (by simp), fun f hf => by cases hf⟩
theorem FldsAt.of_own {B cap : Nat} {A : Option Addr} {E : TypeId} {fs : List (List UInt8 × List UInt8)} {w : World} (h : w.ownsRow B E 2 (.slice A fs.length cap) fs.length (cellsF fs)) (hs : ∀ f ∈ fs, f.1.length ≤ 9223372036854775807 ∧ f.2.length ≤ 9223372036854775807) : FldsAt A fs w := by
  by_cases hn : 0 < fs.length
  · obtain ⟨gb, cap', he, hg, hc⟩ := own_fields h hn
    injection he with he1 _ _
    subst he1
    refine ⟨fun _ => ⟨_, rfl, hg⟩, fun k ad hk ha => ?_, hs⟩
    injection ha with ha
    subst ha
    obtain ⟨c0, c1⟩ := hc k hk
    rw [add0]
    exact ⟨c0, c1⟩
  · have : fs = [] := List.eq_nil_of_length_eq_zero (by omega)
    subst this
    exact FldsAt.nil

section
variable {H : Type} {enc : TypeId × Value → H} {w : World} {base : Nat} {spare : Nat → Bool} {held : Bool}

theorem take1 {α : Type} {l : List α} {i : Nat} {x : α} (h : (l.drop i).take 1 = [x]) : l[i]? = some x := by
  have : ((l.drop i).take 1)[0]? = some x := by rw [h]; rfl
  simpa using this

theorem two_of {α : Type} {cs : List α} {u v : α} (hl : cs.length = 2) (s0 : cs[0]? = some u) (s1 : cs[1]? = some v) : cs = [u, v] := by
  refine List.ext_getElem? fun i => ?_
  match i with
  | 0 => rw [s0]; rfl
  | 1 => rw [s1]; rfl
  | i + 2 => rw [List.getElem?_eq_none (by omega)]; rfl

theorem weightsAll_mem {P : Program} {e : TypeId} : ∀ {l : List (DataW H)} {d : DataW H}, d ∈ l → ∀ n ∈ d.weights P e, n ∈ DataW.weightsAll P e l
  | [], _, h, _, _ => by simp at h
  | d0 :: l, d, h, n, hn => by
    simp only [DataW.weightsAll, List.mem_append]
    rcases List.mem_cons.1 h with rfl | h
    · exact Or.inl hn
    · exact Or.inr (weightsAll_mem h n hn)

/-- A bulletinref09.F, opened. -/
theorem open_fld {fuel : Nat} {cs : List Value} {x : DataW H × List MemPlace} (h : DataW.trod enc Try.prog w base spare held fuel 25 cs = some x) :
    ∃ a b : List UInt8, cs = [strV a, strV b] ∧ x.1 = .agg [.lit (.string a), .lit (.string b)] := by
  obtain ⟨xs, m, rfl, rfl, hl, hx, hf⟩ := DataW.trod_struct Try.underlying25 h
  have hc : Try.prog.cellsOf 25 = 2 := by kernel_rfl
  have c9 : Try.prog.cellsOf 9 = 1 := by kernel_rfl
  rw [hc] at hl
  have hxl : xs.length = 2 := hx
  match xs, hxl with
  | [x0, x1], _ =>
  have h0 : DataW.trod enc Try.prog w base spare held m 9 ((cs.drop 0).take (Try.prog.cellsOf 9)) = some x0 := hf 0 _ rfl
  have h1 : DataW.trod enc Try.prog w base spare held m 9 ((cs.drop 1).take (Try.prog.cellsOf 9)) = some x1 := hf 1 _ rfl
  rw [c9] at h0 h1
  obtain ⟨a, e0, r0, w0⟩ := DataW.trod_string Try.underlying9 h0
  obtain ⟨b, e1, r1, w1⟩ := DataW.trod_string Try.underlying9 h1
  subst r0; subst r1
  refine ⟨a.data.toList, b.data.toList, ?_, rfl⟩
  have s0 := take1 e0
  have s1 := take1 e1
  unfold strV
  rw [bsOf_eta, bsOf_eta]
  exact two_of hl s0 s1

theorem fld_weights {a b : List UInt8} (hs : ∀ n ∈ (DataW.agg [.lit (.string a), .lit (.string b)] : DataW H).weights Try.prog 25, n ≤ reachBytes) : a.length ≤ 140737488355328 ∧ b.length ≤ 140737488355328 := by
  have h3 := reachBytes_lt
  have one : ∀ (j : Nat) (c : List UInt8), j < 2 → ([.lit (.string a), .lit (.string b)] : List (DataW H))[j]? = some (.lit (.string c)) → c.length ≤ reachBytes := by
    intro j c hj hd
    refine hs _ ?_
    unfold DataW.weights
    rw [Try.underlying25]
    match j, hj with
    | 0, _ => exact DataW.weights_mem_each (j := 0) rfl hd _ (by unfold DataW.weights; exact List.mem_singleton.2 rfl)
    | 1, _ => exact DataW.weights_mem_each (j := 1) rfl hd _ (by unfold DataW.weights; exact List.mem_singleton.2 rfl)
  have h1 := one 0 a (by omega) rfl
  have h2 := one 1 b (by omega) rfl
  omega

/-- A []bulletinref09.F, opened. -/
theorem open_flds {fuel : Nat} {cs : List Value} {x : DataW H × List MemPlace} (h : DataW.trod enc Try.prog w base spare held fuel 26 cs = some x)
    (hs : ∀ n ∈ x.1.weights Try.prog 26, n ≤ reachBytes) :
    ∃ (A : Option Addr) (fs : List (List UInt8 × List UInt8)) (cap : Nat), cs = [.slice A fs.length cap] ∧ fs.length ≤ 9223372036854775807 ∧ FldsAt A fs w := by
  rcases Deep.open_slice Try.underlying26 h with ⟨rfl, rfl⟩ | ⟨a, len, cap, m, n, D, Pl, rfl, hb, hl, hm, hmm, rfl, hx⟩
  · exact ⟨none, [], 0, rfl, by simp, FldsAt.nil⟩
  have hc : Try.prog.cellsOf 25 = 2 := by kernel_rfl
  rw [hc] at hx
  have hlm : len ≤ m := by rw [hmm]; split <;> omega
  have key : ∀ i, i < len → ∃ e : List UInt8 × List UInt8, w.cells? base (a.add (i * 2)) 2 = some [strV e.1, strV e.2] ∧ e.1.length ≤ 140737488355328 ∧ e.2.length ≤ 140737488355328 := by
    intro i hi
    obtain ⟨cs', hcs, htr⟩ := hx i (by omega)
    obtain ⟨s, t, rfl, hd⟩ := open_fld htr
    refine ⟨(s, t), hcs, fld_weights (H := H) (fun n hn => hs _ ?_)⟩
    show _ ∈ DataW.weights _ _ (DataW.slice _ _)
    unfold DataW.weights
    rw [Try.underlying26]
    refine List.mem_cons_of_mem _ (List.mem_append.2 (Or.inl (weightsAll_mem (List.mem_map.2 ⟨i, List.mem_range.2 hi, rfl⟩) _ ?_)))
    have hd' : D i = .agg [.lit (.string s), .lit (.string t)] := hd
    rw [hd']
    exact hn
  have inh : Inhabited (List UInt8 × List UInt8) := ⟨([], [])⟩
  obtain ⟨E, hE⟩ := Deep.choose_lt key
  have hlen : ((List.range len).map E).length = len := by simp
  refine ⟨some a, (List.range len).map E, cap, by rw [hlen], ?_, ⟨fun h => ⟨a, rfl, ?_⟩, fun k ad hk ha => ?_, fun f hf => ?_⟩⟩
  · have : maxLen ≤ 9223372036854775807 := by decide
    omega
  · rw [hlen] at h
    obtain ⟨_, _, hcc⟩ := World.cells?_some (hE 0 h).1
    have := hcc 0 (by decide)
    rw [Nat.zero_mul] at this
    by_cases hlt : a.block < w.heap.size
    · exact hlt
    · simp [World.cell?, Addr.add, Array.getElem?_eq_none (Nat.le_of_not_lt hlt)] at this
  · injection ha with ha
    subst ha
    rw [hlen] at hk
    obtain ⟨_, _, hcc⟩ := World.cells?_some (hE k hk).1
    have c0 := hcc 0 (by decide)
    have c1 := hcc 1 (by decide)
    rw [List.getElem_map, List.getElem_range]
    exact ⟨c0, c1⟩
  · obtain ⟨i, hi, rfl⟩ := List.mem_map.1 hf
    have := (hE i (List.mem_range.1 hi)).2
    omega

theorem fld_arg {r : Reach} {b0 : Nat} {v : Value} {d : DataW H} {ps : List MemPlace} (hval : Value.okWide Try.prog w r b0 25 v)
    (h : DataW.Trod enc Try.prog w base spare held 25 v d ps) (hs : ∀ n ∈ d.weights Try.prog 25, n ≤ reachBytes) :
    ∃ (a b : List UInt8), v = .agg #[strV a, strV b] ∧ a.length ≤ 9223372036854775807 ∧ b.length ≤ 9223372036854775807 := by
  obtain ⟨cs, rfl, _⟩ := okWide_struct Try.underlying25 hval
  obtain ⟨fuel, hf⟩ := h
  obtain ⟨a, b, he, hd⟩ := open_fld hf
  have hd' : d = .agg [.lit (.string a), .lit (.string b)] := hd
  rw [hd'] at hs
  obtain ⟨h1, h2⟩ := fld_weights hs
  refine ⟨a, b, ?_, by omega, by omega⟩
  have he' : cs.toList = [strV a, strV b] := he
  rw [show cs = cs.toList.toArray by simp, he']

theorem flds_arg {r : Reach} {b0 : Nat} {v : Value} {d : DataW H} {ps : List MemPlace} (hval : Value.okWide Try.prog w r b0 26 v)
    (h : DataW.Trod enc Try.prog w base spare held 26 v d ps) (hs : ∀ n ∈ d.weights Try.prog 26, n ≤ reachBytes) :
    ∃ (A : Option Addr) (fs : List (List UInt8 × List UInt8)) (cap : Nat), v = .slice A fs.length cap ∧ fs.length ≤ 9223372036854775807 ∧ FldsAt A fs w := by
  obtain ⟨a0, l0, c0, rfl⟩ := okWide_slice Try.underlying26 hval
  obtain ⟨fuel, hf⟩ := h
  obtain ⟨A, fs, cap, he, hl, hC⟩ := open_flds hf hs
  refine ⟨A, fs, cap, ?_, hl, hC⟩
  simp only [Value.cells, List.cons.injEq, and_true] at he
  exact he
end
end Go.Proofs.Ytknamddpflkifaa
