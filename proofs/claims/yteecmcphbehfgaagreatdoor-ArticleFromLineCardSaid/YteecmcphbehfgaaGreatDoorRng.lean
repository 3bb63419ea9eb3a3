/- A range over an iterator that keeps a variable of its own in a block: the law for the loop. Conditions: none; a plain lemma over any program. -/
import Derived.RangeFuncNested
import Derived.RangeFuncBound
import Derived.RangeFuncCalls
import Derived.RangeFuncLeaves
import Derived.Shelf.Abstract
import Derived.Shelf.RegionOpen
import Derived.OwnWalkIn
import Derived.TacticsInMore
import Derived.LoopNIn
import Derived.LoopIn
import Derived.Test.YteecmcphbehfgaaGreatDoorMem
namespace Go.Proofs.YteecmcphbehfgaaGreatDoor
open Go.RowKit Go.Lib

/-- What the loop's book-keeping and the iterator may turn: the iterator's block, and whatever is no cells from B on. -/
def Soft (B bx : Nat) (W : World) (k : Nat) : Prop := k = bx ∨ (B ≤ k ∧ ∃ o, W.heap[k]? = some o ∧ o.isCells = false)
def Firm {β : Type} (B bx : Nat) (I : β → World → Prop) : Prop := ∀ s W W', I s W → Kept (Soft B bx W) W W' → I s W'
/-- What a round leaves: the blocks of Z, and whatever is no cells from B on. -/
structure Held (B : Nat) (Z : Nat → Prop) (W W' : World) : Prop where
  size : W.heap.size ≤ W'.heap.size
  same : ∀ (k : Nat) (o : Obj), B ≤ k → W.heap[k]? = some o → o.isCells = false → W'.heap[k]? = some o
  box : ∀ k, Z k → W'.heap[k]? = W.heap[k]?
theorem Held.of {B : Nat} {Z F : Nat → Prop} {W W' : World} (h : Kept F W W') (hZ : ∀ k, Z k → k < W.heap.size ∧ ¬ F k) (hF : ∀ k o, F k → B ≤ k → W.heap[k]? = some o → o.isCells = true) : Held B Z W W' :=
  ⟨h.size, fun k o hB hk ho => by
    have hlt := (Array.getElem?_eq_some_iff.1 hk).1
    by_cases hf : F k
    · rw [hF k o hf hB hk] at ho; exact absurd ho (by decide)
    · rw [h.block k hlt hf]; exact hk, fun k hk => h.block k (hZ k hk).1 (hZ k hk).2⟩
theorem Held.trans {B : Nat} {Z : Nat → Prop} {W W' W'' : World} (h : Held B Z W W') (k : Held B Z W' W'') : Held B Z W W'' :=
  ⟨Nat.le_trans h.size k.size, fun i o hB hi ho => k.same i o hB (h.same i o hB hi ho) ho, fun i hi => (k.box i hi).trans (h.box i hi)⟩
theorem kept_put (W : World) (l : Nat) (o : Obj) : Kept (fun k => k = l) W (W.putObj l o) :=
  ⟨rfl, rfl, rfl, by simp [World.putObj], fun k _ hk => World.putObj_heap_other hk⟩
theorem Firm.put {β : Type} {B bx : Nat} {I : β → World → Prop} (h : Firm B bx I) {s : β} {W : World} {l : Nat} {o : Obj} (o' : Obj) (hs : I s W) (hB : B ≤ l) (hl : W.heap[l]? = some o) (ho : o.isCells = false) : I s (W.putObj l o') :=
  h s W _ hs ((kept_put W l o').mono (fun _ _ e => .inr (by subst e; exact ⟨hB, o, hl, ho⟩)))
theorem Firm.new {β : Type} {B bx : Nat} {I : β → World → Prop} (h : Firm B bx I) {s : β} {W : World} (o : Obj) (hs : I s W) : I s (W.alloc o) :=
  h s W _ hs ((Kept.refl _ W).alloc o)

/-- What an iterator promises: it hands out L in its order, and stops where a round says so. -/
def IterAt {α : Type} (F : Fence) (n : Nat) (P : Program) (g : Nat) (lb : Array Value) (encs : α → Array Value) (bx : Nat) (Z : Nat → Prop) (L : List α) (w0 : World) : Prop :=
  ∀ (l : Nat) (J Jx : List α → World → Prop) (W : World), w0.heap.size ≤ W.heap.size → (∀ k, Z k → W.heap[k]? = w0.heap[k]?) →
    (∀ s A B, J s A → Kept (fun k => k = bx) A B → J s B) → (∀ s A B, Jx s A → Kept (fun k => k = bx) A B → Jx s B) →
    (∀ pre x W1, J pre W1 → pre ++ [x] <+: L → YieldAt F (n - 1) P l (encs x) W1 fun e W' =>
      (e = .returned (.bool true) ∧ J (pre ++ [x]) W' ∧ W1.heap.size ≤ W'.heap.size ∧ ∀ k, Z k → W'.heap[k]? = W1.heap[k]?) ∨ (e = .returned (.bool false) ∧ Jx (pre ++ [x]) W')) →
    J [] W →
    CallsIn F n P g (#[.func (.yield l) #[] #[]] ++ lb) W fun e W' => (∃ v, e = .returned v) ∧ (J L W' ∨ ∃ pre, pre <+: L ∧ Jx pre W')

/-- How a round's body may be left. -/
def roundQ {α : Type} (B : Nat) (Z : Nat → Prop) (I : List α → World → Prop) (Ix : Code → List α → World → Prop) (xs : List α) (W : World) : Exit → Act → World → Prop
  | .normal, _, W' => Held B Z W W' ∧ I xs W'
  | .ret, _, W' => Held B Z W W' ∧ Ix .ret xs W'
  | .exit id, _, W' => Held B Z W W' ∧ Ix (.exit id) xs W'
  | .goto t, _, W' => Held B Z W W' ∧ Ix (.goto t) xs W'
  | .panic _, _, _ => False
  | .outgrown, _, _ => False

theorem range_law {α : Type} {F : Fence} {n : Nat} {P : Program} {g : Operand} {ps : Array Tmp} {assign body : Code} {Q : Exit → Act → World → Prop} {a : Act} {w : World}
    (hro : F.round = none) (h1 : 1 ≤ n) {gf : Nat} {lb : Array Value} (hg : a.eval g = .func (.func gf) #[] lb) (hFg : F.fn gf) (eg : ∀ args w, (callFunc gf args).run P w = .ok (.enter gf args) w)
    {encs : α → Array Value} {bx : Nat} {Z : Nat → Prop} {L : List α} (hit : IterAt F (n - 1) P gf lb encs bx Z L w) (hbx : bx < w.heap.size) (hZ : ∀ k, Z k → k < w.heap.size) (hps : ∀ x, (encs x).size = ps.size)
    (I : List α → World → Prop) (Ix : Code → List α → World → Prop) (hI : Firm w.heap.size bx I) (hIx : ∀ c, Firm w.heap.size bx (Ix c)) (h0 : I [] w) (a₁ : α → Act)
    (hassign : ∀ (l : Nat) (x : α) (W : World) (K : Act → World → Prop), K (a₁ x) W →
      assign.wpIn (F.inRound l) (n - 1 - 1) P (Exit.then K (fun _ _ _ => False)) { tmps := (ps.zip (encs x)).foldl (fun t (p, v) => t.setIfInBounds p v) a.tmps, defers := [] } W)
    (hbody : ∀ (l : Nat) (pre : List α) (x : α) (W : World), I pre W → pre ++ [x] <+: L → w.heap.size ≤ W.heap.size → body.wpIn (F.inRound l) (n - 1 - 1) P (roundQ w.heap.size Z I Ix (pre ++ [x]) W) (a₁ x) W)
    (hdone : ∀ (D : Nat) (W : World), w.heap.size ≤ D → I L W → W.heap[D]? = some (.deferred (some [])) → Q .normal { a with defers := { target := .collected D, args := #[] } :: a.defers } W)
    (hstop : ∀ (D : Nat) (c : Code) (pre : List α) (W : World), w.heap.size ≤ D → pre <+: L → Ix c pre W → W.heap[D]? = some (.deferred (some [])) → c.wpIn F n P Q { a with defers := { target := .collected D, args := #[] } :: a.defers } W) :
    (Code.rangeFunc g ps assign body).wpIn F n P Q a w := by
  refine wpIn_rangeFunc fun fn hfn => ?_
  rw [hro]
  -- the record of the loop, by its state and its pending jump
  obtain ⟨rc, hrc⟩ : ∃ rc : LoopState → Option Code → Loop, ∀ st pe, rc st pe = { state := st, pending := pe, fn, tmps := a.tmps, params := ps, assign, body, defers := w.heap.size } := ⟨fun st pe => _, fun _ _ => rfl⟩
  obtain ⟨W1, hW1⟩ : ∃ W1, W1 = (w.alloc (.deferred (some []))).alloc (.loop (rc .ready none)) := ⟨_, rfl⟩
  have sz1 : W1.heap.size = w.heap.size + 1 + 1 := by rw [hW1]; simp
  have rec1 : W1.heap[w.heap.size + 1]? = some (.loop (rc .ready none)) := by
    have := World.alloc_heap_new (w.alloc (.deferred (some []))) (.loop (rc .ready none))
    rw [World.size_alloc] at this
    rw [hW1]
    exact this
  have def1 : W1.heap[w.heap.size]? = some (.deferred (some [])) := by
    rw [hW1, Below.heap_alloc _ _ _ (by simp)]
    exact World.alloc_heap_new w _
  have inv1 : I [] W1 := by rw [hW1]; exact hI.new _ (hI.new _ h0)
  have old1 : ∀ k, Z k → W1.heap[k]? = w.heap[k]? := fun k hk => by
    have := hZ k hk
    rw [hW1, Below.heap_alloc _ _ _ (by simp; omega), Below.heap_alloc _ _ _ this]
  have box_rec : ∀ {A B : World}, Kept (fun k => k = bx) A B → ∀ {k : Nat} {o : Obj}, w.heap.size ≤ k → A.heap[k]? = some o → B.heap[k]? = some o := fun h k o hk ho => by
    rw [h.block k (Array.getElem?_eq_some_iff.1 ho).1 (by omega)]
    exact ho
  have soft : ∀ {A B : World}, Kept (fun k => k = bx) A B → Kept (Soft w.heap.size bx A) A B := fun h => h.mono (fun _ _ e => .inl e)
  refine ⟨w.heap.size + 1, [{ target := .collected w.heap.size, args := #[] }], W1, { target := .fn (.func gf) lb, args := #[.func (.yield (w.heap.size + 1)) #[] #[]] }, W1, gf, #[.func (.yield (w.heap.size + 1)) #[] #[]] ++ lb, W1, ?_, ?_, ?_, ?_, fun _ => h1, ?_⟩
  · have := run_enterLoop_outer (P := P) (w := w) fn a.tmps ps assign body
    rw [← hrc] at this
    rw [hW1]
    exact this
  · simp only [resolve, hg]
    simp [go_sem]
  · intro f' hf'
    simp [Target.leads] at hf'
    subst hf'
    exact hFg
  · simp [invoke, go_sem, eg]
  refine (hit (w.heap.size + 1)
    (fun pre W => (I pre W ∧ w.heap.size + 1 + 1 ≤ W.heap.size) ∧ W.heap[w.heap.size + 1]? = some (.loop (rc .ready none)) ∧ W.heap[w.heap.size]? = some (.deferred (some [])))
    (fun pre W => ∃ c, Ix c pre W ∧ W.heap[w.heap.size + 1]? = some (.loop (rc .done (some c))) ∧ W.heap[w.heap.size]? = some (.deferred (some [])))
    W1 (by omega) old1 ?_ ?_ ?_ ⟨⟨inv1, by omega⟩, rec1, def1⟩).mono ?_
  · rintro s A B ⟨⟨hi, hz⟩, hl, hd⟩ hk
    exact ⟨⟨hI s A B hi (soft hk), Nat.le_trans hz hk.size⟩, box_rec hk (by omega) hl, box_rec hk (Nat.le_refl _) hd⟩
  · rintro s A B ⟨c, hi, hl, hd⟩ hk
    exact ⟨c, hIx c s A B hi (soft hk), box_rec hk (by omega) hl, box_rec hk (Nat.le_refl _) hd⟩
  · -- one round
    rintro pre x W ⟨⟨hi, hz⟩, hl, hd⟩ hpre
    have hy := run_yield (P := P) (args := encs x) hl (by rw [hrc]; exact hps x)
    rw [hrc] at hy
    refine ⟨fn, _, assign, body, hy, roundIn_of_wpIn hfn (hassign _ x W _ ⟨_, run_beginRound hl (by rw [hrc]), ?_⟩)⟩
    obtain ⟨W2, hW2⟩ : ∃ W2, W2 = W.putObj (w.heap.size + 1) (.loop { rc .ready none with state := .busy }) := ⟨_, rfl⟩
    rw [← hW2]
    have k2 : Kept (fun k => k = w.heap.size + 1) W W2 := by rw [hW2]; exact kept_put _ _ _
    have l2 : W2.heap[w.heap.size + 1]? = some (.loop { rc .ready none with state := .busy }) := by rw [hW2]; exact World.putObj_heap_same (by omega)
    have d2 : W2.heap[w.heap.size]? = some (.deferred (some [])) := by rw [hW2, World.putObj_heap_other (by omega)]; exact hd
    have i2 : I pre W2 := by rw [hW2]; exact hI.put _ hi (by omega) hl rfl
    refine wpIn_mono (hbody _ pre x W2 i2 hpre (by have := k2.size; omega)) ?_
    have shut : ∀ (jump : Option Code) (W3 : World), Held w.heap.size Z W2 W3 →
        ∃ W4, W4 = W3.putObj (w.heap.size + 1) (.loop (rc (if jump.isNone then .ready else .done) jump)) ∧ (Instr.endRound (w.heap.size + 1) jump).run P W3 = .ok (.bool jump.isNone) W4 ∧
          (∀ {β : Type} {I' : β → World → Prop} {s : β}, Firm w.heap.size bx I' → I' s W3 → I' s W4) ∧
          W4.heap[w.heap.size + 1]? = some (.loop (rc (if jump.isNone then .ready else .done) jump)) ∧ W4.heap[w.heap.size]? = some (.deferred (some [])) ∧
          W.heap.size ≤ W4.heap.size ∧ ∀ k, Z k → W4.heap[k]? = W.heap[k]? := fun jump W3 h3 => by
      have l3 := h3.same _ _ (by omega) l2 rfl
      have d3 := h3.same _ _ (Nat.le_refl _) d2 rfl
      have hlt := (Array.getElem?_eq_some_iff.1 l3).1
      refine ⟨_, rfl, ?_, fun hf hs => hf.put _ hs (by omega) l3 rfl, World.putObj_heap_same hlt, ?_, ?_, ?_⟩
      · have := run_endRound (P := P) jump l3
        simp only [hrc] at this ⊢
        exact this
      · rw [World.putObj_heap_other (by omega)]; exact d3
      · have a1 := k2.size
        have a2 := h3.size
        have a3 := (kept_put W3 (w.heap.size + 1) (.loop (rc (if jump.isNone then .ready else .done) jump))).size
        omega
      · intro k hk
        have := hZ k hk
        rw [World.putObj_heap_other (by omega), h3.box k hk, hW2, World.putObj_heap_other (by omega)]
    rintro e a3 W3 hp
    cases e with
    | normal =>
      obtain ⟨W4, _, he, hf, hl4, hd4, hs4, hz4⟩ := shut none W3 hp.1
      exact ⟨_, _, he, .inl ⟨rfl, ⟨⟨hf hI hp.2, by omega⟩, hl4, hd4⟩, hs4, hz4⟩⟩
    | ret =>
      obtain ⟨W4, _, he, hf, hl4, hd4, _, _⟩ := shut (some .ret) W3 hp.1
      exact ⟨_, _, he, .inr ⟨rfl, _, hf (hIx _) hp.2, hl4, hd4⟩⟩
    | exit id =>
      obtain ⟨W4, _, he, hf, hl4, hd4, _, _⟩ := shut (some (.exit id)) W3 hp.1
      exact ⟨_, _, he, .inr ⟨rfl, _, hf (hIx _) hp.2, hl4, hd4⟩⟩
    | goto t =>
      obtain ⟨W4, _, he, hf, hl4, hd4, _, _⟩ := shut (some (.goto t)) W3 hp.1
      exact ⟨_, _, he, .inr ⟨rfl, _, hf (hIx _) hp.2, hl4, hd4⟩⟩
    | panic ch => exact hp.elim
    | outgrown => exact hp.elim
  · -- behind the iterator
    rintro e W2 ⟨⟨v, rfl⟩, (⟨⟨hi, _⟩, hl, hd⟩ | ⟨pre, hpre, c, hi, hl, hd⟩)⟩
    · have := run_endLoop (P := P) hl (by rw [hrc]; simp)
      simp only [hrc] at this
      exact ⟨none, _, this, hdone _ _ (Nat.le_refl _) (hI.put _ hi (by omega) hl rfl) ((World.putObj_heap_other (by omega)).trans hd)⟩
    · have := run_endLoop (P := P) hl (by rw [hrc]; simp)
      simp only [hrc] at this
      exact ⟨some c, _, this, hstop _ c pre _ (Nat.le_refl _) hpre ((hIx c).put _ hi (by omega) hl rfl) ((World.putObj_heap_other (by omega)).trans hd)⟩
end Go.Proofs.YteecmcphbehfgaaGreatDoor
