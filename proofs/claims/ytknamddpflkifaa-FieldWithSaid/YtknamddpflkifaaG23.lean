/- FieldWith holds: for every list of fields and every field the law returns true, and both read as before.
   Conditions: none. -/
import Derived.Test.YtknamddpflkifaaG22
import Derived.Test.YtknamddpflkifaaG10
import Derived.Deep.DeepCutAuto
import Derived.Maps.AppendAt
import Derived.RegionTactic
namespace Go.Proofs.Ytknamddpflkifaa
open Go.ChangeShapes Go.WideShapes Go.ChangeAt Go.RowKit Go.Lib

theorem cut_at {A : Option Addr} {cap : Nat} {fs : List (List UInt8 × List UInt8)} {w : World} (h : FldsAt A fs w) (hn : fs.length ≤ 9223372036854775807) (W : World) (hk : Kept (fun _ => False) w W) :
    Calls Try.prog 14 #[.slice A fs.length cap] W (RowAt 25 (cutF fs) W) :=
  (cut_any (cap := cap) (h.kept hk (fun _ _ f => f)) hn).mono fun _ _ h => RowPost.at h (CutS.of fs).max

/-- Behind the two cuts. -/
def Cut2 (B0 : Nat) (G : List (List UInt8 × List UInt8)) (n b : List UInt8) (w : World) (s0 : Value) (wx : World) : Prop :=
  ∃ A cap, s0 = .slice A G.length cap ∧ FldsAt A G wx ∧ (∀ ad, A = some ad → ad.block < wx.heap.size) ∧ Below w.heap.size w wx ∧ wx.heap[B0]? = some (.cells #[strV n, strV b] 25 (0, 0))

theorem own_some {B n cap : Nat} {A : Option Addr} {E : TypeId} {xs : List Value} {w : World} (h : w.ownsRow B E 2 (.slice A n cap) n xs) (hn : 0 < n) : ∃ g, A = some ⟨g, 0, none⟩ := by
  rcases h.2 with ⟨_, h0⟩ | ⟨g, cap', cur, he, _⟩
  · omega
  · injection he with he1 _ _
    exact ⟨g, he1⟩
theorem own_xs {B n : Nat} {v : Value} {E : TypeId} {xs : List Value} {w : World} (h : w.ownsRow B E 2 v n xs) : xs.length = n * 2 := h.1
theorem own_at {B n cap g : Nat} {E : TypeId} {xs : List Value} {w : World} (h : w.ownsRow B E 2 (.slice (some ⟨g, 0, none⟩) n cap) n xs) {j : Nat} (hj : j < xs.length) : ∃ u, w.cell? ⟨g, j, none⟩ = some u ∧ w.frozen? ⟨g, j, none⟩ = false ∧ g < w.heap.size := by
  have hlt := (own_lt h g rfl).2
  have hx := h.1
  rcases h.2 with ⟨h0, _⟩ | ⟨g', cap', cur, he, hB, hg, h1, h2, h3, h4⟩
  · cases h0
  · injection he with he1 _ _
    injection he1 with he1
    injection he1 with he1
    subst he1
    have hc : j < cur.size := by
      have := congrArg List.length h4
      rw [List.length_take, Array.length_toList] at this
      omega
    exact ⟨cur[j], by rw [Lib.cell_of_heap hg, Array.getElem?_eq_getElem hc], Lib.frozen_of_heap hg _, hlt⟩
/-- All that stood stands. -/
structure Old (W w' : World) : Prop where
  below : Below W.heap.size W w'
theorem Old.blk {W w' : World} (h : Old W w') {g : Nat} {o : Obj} (hg : W.heap[g]? = some o) : w'.heap[g]? = some o := by
  have hl : g < W.heap.size := by
    rcases Nat.lt_or_ge g W.heap.size with h | h
    · exact h
    · rw [Array.getElem?_eq_none h] at hg; cases hg
  exact (h.below.block g hl).trans hg
theorem Old.cell {W w' : World} (h : Old W w') {a : Addr} {v : Value} (hc : W.cell? a = some v) : w'.cell? a = some v := ((kept_of_below h.below).cell (World.block_lt_of_cell? W _ hc) (fun f => f)).trans hc
theorem Old.alloc {W w1 : World} (h : Old W w1) (o : Obj) : Old W (w1.alloc o) := ⟨h.below.alloc h.below.size o⟩
theorem Old.refl (W : World) : Old W W := ⟨Below.refl _ _⟩
theorem Old.drew {W w1 : World} (h : Old W w1) : Old W w1.drew := ⟨h.below.drew⟩
/-- All blocks of two cells that stood stand. -/
structure OldN (W w' : World) : Prop where
  size : W.heap.size ≤ w'.heap.size
  blk2 : ∀ {g : Nat} {x y : Value} {T : TypeId} {fr : Nat × Nat}, W.heap[g]? = some (.cells #[x, y] T fr) → w'.heap[g]? = some (.cells #[x, y] T fr)
theorem own_empty {B g : Nat} {E : TypeId} {w : World} (h : w.heap[g]? = some (.cells #[] E (0, 0))) (hB : B ≤ g) : w.ownsRow B E 2 (.slice (some ⟨g, 0, none⟩) 0 0) 0 [] :=
  ⟨rfl, .inr ⟨g, 0, #[], rfl, hB, h, Nat.le_refl _, Nat.zero_le _, rfl, rfl⟩⟩
theorem cells_one (fs : List (List UInt8 × List UInt8)) : ∀ u ∈ cellsF fs, u.oneCell' = true := by
  intro u hu
  obtain ⟨f, _, hu⟩ := List.mem_flatMap.1 hu
  rcases List.mem_cons.1 hu with rfl | hu
  · rfl
  · rw [List.mem_singleton.1 hu]; rfl
theorem step_append_g {P : Program} {w : World} {ops : Array Oper} {o : Oper} {a : Act} {K : Act → World → Prop} {Q : Exit → Act → World → Prop} {E : Prop} (hw : Region.wanted o (yielded ops a.tmps) = true) (s x : Operand) (t : TypeId)
    (ho : o.op = .call { callee := .builtin .append, args := #[s, x], argTypes := #[t, t] })
    (base : Nat) (e : TypeId) (i : TypeInfo) (z : Value) (size bytes : Nat) (ht : P.underlying t = some (.slice e)) (hi : P.info? e = some i) (hz : i.zero = some z)
    (hsize : i.size = size) (hby : i.bytes = bytes) (hzs : z.cells.size = size) (hsz : 0 < size)
    (v : Value) (n : Nat) (xs : List Value) (hs : a.eval s = v) (hown : w.ownsRow base e size v n xs)
    (ad : Addr) (m c : Nat) (news : List Value) (hx : a.eval x = .slice (some ad) m c) (hl : news.length = m * size) (hnews : ∀ j u, news[j]? = some u → w.cell? (ad.add j) = some u) (h1 : ∀ u ∈ news, u.oneCell' = true)
    (hm : 0 < m) (h63 : n + m ≤ maxLen) (hbytes : (n + m) * bytes ≤ 140737488355328) (hbase : base ≤ w.heap.size) (H : Nat) (hH : w.heap.size = H)
    (h : ∀ g cap w', w'.ownsRow base e size (.slice (some ⟨g, 0, none⟩) (n + m) cap) (n + m) (xs ++ news) → w.grownBy w' v.ownBlock → (v.ownBlock = some g ∨ g = H) → g < w'.heap.size → K (a.put o.dst (.slice (some ⟨g, 0, none⟩) (n + m) cap)) w') :
    if Region.wanted o (yielded ops a.tmps) = true then Oper.wp P o a w K Q else E := by
  rw [if_pos hw]
  exact wp_append_lies w s x t ho base e i z size bytes ht hi hz hsize hby hzs hsz v n xs hs hown ad m c news hx hl hnews h1 hm h63 hbytes hbase H hH h
theorem run_append_zero {P : Program} (w : World) (t ty e : TypeId) (i : TypeInfo) (ht : P.underlying t = some (.slice e)) (hi : P.info? e = some i)
    (g cap : Nat) (A : Option Addr) (c : Nat) : (Builtin.append_ #[t, t] ty #[.slice (some ⟨g, 0, none⟩) 0 cap, .slice A 0 c]).run P w = .ok (.slice (some ⟨g, 0, none⟩) 0 cap) w := by
  cases A with
  | none => simp [Builtin.append_, run_underlying ht, sizeOf, typeInfo, hi, Builtin.lenOf, Builtin.firstCells, storeCells]
  | some ad => simp [Builtin.append_, run_underlying ht, sizeOf, typeInfo, hi, Builtin.lenOf, Builtin.firstCells, storeCells, loadCells, loadCellsFrom]
theorem step_append_zero {P : Program} {w : World} {ops : Array Oper} {o : Oper} {a : Act} {K : Act → World → Prop} {Q : Exit → Act → World → Prop} {E : Prop} (hw : Region.wanted o (yielded ops a.tmps) = true) (s x : Operand) (t : TypeId)
    (ho : o.op = .call { callee := .builtin .append, args := #[s, x], argTypes := #[t, t] })
    (e : TypeId) (i : TypeInfo) (ht : P.underlying t = some (.slice e)) (hi : P.info? e = some i) (g cap : Nat) (A : Option Addr) (c : Nat) (hs : a.eval s = .slice (some ⟨g, 0, none⟩) 0 cap) (hx : a.eval x = .slice A 0 c)
    (h : K (a.put o.dst (.slice (some ⟨g, 0, none⟩) 0 cap)) w) :
    if Region.wanted o (yielded ops a.tmps) = true then Oper.wp P o a w K Q else E := by
  rw [if_pos hw]
  unfold Oper.wp execOp
  simp only [ho, resolve, invoke, builtin, Sem.run_bind, Sem.run_pure, Result.andThen_ok, List.map_toArray, List.map_cons, List.map_nil, hs, hx, run_append_zero w t o.type e i ht hi g cap A c]
  exact h
theorem old_grown {w W w' : World} {row : Option Nat} (h : Old w W) (hg : W.grownBy w' row) (hr : ∀ j, row = some j → w.heap.size ≤ j) : Old w w' :=
  ⟨h.below.trans (((Kept.refl (fun j => row = some j) W).grown hg (fun j _ e => e)).toBelow hr h.below.size)⟩
theorem oldN_grown {W w' : World} {g : Nat} {E : TypeId} {fr : Nat × Nat} (hg : W.grownBy w' (Value.ownBlock (.slice (some ⟨g, 0, none⟩) 0 0))) (hE : W.heap[g]? = some (.cells #[] E fr)) : OldN W w' := by
  have hk := (Kept.refl (fun j => Value.ownBlock (.slice (some ⟨g, 0, none⟩) 0 0) = some j) W).grown hg (fun j _ e => e)
  refine ⟨hk.size, fun {g'} {x} {y} {T} {fr'} h => hk.heap h (fun e => ?_)⟩
  have e' : g = g' := by injection e
  subst e'
  rw [hE] at h
  injection h with h
  injection h with h1
  exact absurd (congrArg Array.size h1) (by simp)
theorem ne_empty {A : Option Addr} {G : List (List UInt8 × List UInt8)} {W : World} {g : Nat} {E : TypeId} {fr : Nat × Nat} (hf : FldsAt A G W) (hp : 0 < G.length) (hE : W.heap[g]? = some (.cells #[] E fr)) : ∀ ad, A = some ad → ¬ (Value.ownBlock (.slice (some ⟨g, 0, none⟩) 0 0) = some ad.block) := by
  intro ad ha e
  have e' : g = ad.block := by injection e
  obtain ⟨c0, c1⟩ := hf.cell 0 ad hp ha
  have hb : (⟨(ad.add (0 * 2)).block, (ad.add (0 * 2)).off + 1, none⟩ : Addr).block = g := by show (ad.add (0 * 2)).block = g; rw [addr_block, e']
  have h2 : W.cell? ⟨g, (ad.add (0 * 2)).off + 1, none⟩ = some (strV G[0].2) := by rw [← hb]; exact c1
  rw [Lib.cell_of_heap hE] at h2
  simp at h2
theorem ne_lies {A : Option Addr} {G : List (List UInt8 × List UInt8)} {W : World} {g g13 : Nat} {E : TypeId} {fr : Nat × Nat} (hf : FldsAt A G W) (hp : 0 < G.length) (hE : W.heap[g]? = some (.cells #[] E fr)) (hl : Value.ownBlock (.slice (some ⟨g, 0, none⟩) 0 0) = some g13 ∨ g13 = W.heap.size) : ∀ ad, A = some ad → ad.block ≠ g13 := by
  intro ad ha e
  rcases hl with hl | hl
  · exact ne_empty hf hp hE ad ha (by rw [e]; exact hl)
  · obtain ⟨ad', ha', hb⟩ := hf.at_ hp
    rw [ha] at ha'
    injection ha' with ha'
    subst ha'
    omega
theorem ne_some {A : Option Addr} {g n cap : Nat} (h : ∀ ad, A = some ad → ad.block ≠ g) : ∀ ad, A = some ad → ¬ (Value.ownBlock (.slice (some ⟨g, 0, none⟩) n cap) = some ad.block) := by
  intro ad ha e
  have e' : g = ad.block := by injection e
  exact h ad ha e'.symm
theorem fld_grown {A : Option Addr} {G : List (List UInt8 × List UInt8)} {W w' : World} {row : Option Nat} (hf : FldsAt A G W) (hg : W.grownBy w' row) (hne : ∀ ad, A = some ad → ¬ (row = some ad.block)) : FldsAt A G w' :=
  hf.kept ((Kept.refl (fun j => row = some j) W).grown hg (fun j _ e => e)) hne
theorem fld_grown2 {A : Option Addr} {G : List (List UInt8 × List UInt8)} {W0 W w' : World} {row : Option Nat} (hg : W.grownBy w' row) (hf : FldsAt A G W0) (ho : Old W0 W) (hne : FldsAt A G W → ∀ ad, A = some ad → ¬ (row = some ad.block)) : FldsAt A G w' :=
  fld_grown (hf.below ho.below) hg (hne (hf.below ho.below))
theorem ne_lies2 {A : Option Addr} {G : List (List UInt8 × List UInt8)} {W0 W w' : World} {row : Option Nat} {g g13 : Nat} {E : TypeId} {fr : Nat × Nat} (_hg : W.grownBy w' row) (hl : Value.ownBlock (.slice (some ⟨g, 0, none⟩) 0 0) = some g13 ∨ g13 = W.heap.size) (hf : FldsAt A G W0) (ho : Old W0 W) (hp : 0 < G.length) (hE : W.heap[g]? = some (.cells #[] E fr)) : ∀ ad, A = some ad → ad.block ≠ g13 :=
  ne_lies (hf.below ho.below) hp hE hl
theorem fld_of14 {B g n cap : Nat} {R : List (List UInt8 × List UInt8)} {nm b : List UInt8} {w : World} (h : w.ownsRow B 25 2 (.slice (some ⟨g, 0, none⟩) (n + 1) cap) (n + 1) (cellsF R ++ [.string (bsOf nm), .string (bsOf b)])) (hn : R.length = n) (hm : ∀ f ∈ R ++ [(nm, b)], f.1.length ≤ 9223372036854775807 ∧ f.2.length ≤ 9223372036854775807) : FldsAt (some ⟨g, 0, none⟩) (R ++ [(nm, b)]) w := by
  have hl : (R ++ [(nm, b)]).length = n + 1 := by rw [List.length_append, hn]; rfl
  refine FldsAt.of_own (B := B) (cap := cap) (E := 25) ?_ hm
  rw [hl, cellsF_append]
  exact h
theorem sameX {A B : Option Addr} {ca cb : Nat} {gs : List (List UInt8 × List UInt8)} {W : World} (hA : FldsAt A gs W) (hB : FldsAt B gs W) (hm : gs.length ≤ 1000000) :
    Calls Try.prog 24 #[.slice A gs.length ca, .slice B gs.length cb] W fun e w' => e = .returned (.bool true) ∧ Old W w' := by
  refine (same_any (ca := ca) (cb := cb) hA hB hm hm).mono ?_
  rintro e w' ⟨rfl, hb⟩
  exact ⟨by rw [decide_eq_true rfl], ⟨hb⟩⟩
theorem FldsAt.old {A : Option Addr} {G : List (List UInt8 × List UInt8)} {W w' : World} (h : FldsAt A G W) (k : Old W w') : FldsAt A G w' := h.below k.below
theorem Old.trans {W w1 w2 : World} (h : Old W w1) (k : Old w1 w2) : Old W w2 := ⟨h.below.trans (k.below.mono h.below.size)⟩
/-- What Of leaves, in whatever later world. -/
def OfW (w : World) (G : List (List UInt8 × List UInt8)) (W : World) (e : Ending) (w' : World) : Prop :=
  ∃ A cap, e = .returned (.slice A G.length cap) ∧ FldsAt A G w' ∧ (∀ ad, A = some ad → W.heap.size ≤ ad.block) ∧ Old W w' ∧ Old w w'
theorem ofW {A : Option Addr} {cap : Nat} {G : List (List UInt8 × List UInt8)} {w : World} (h : FldsAt A G w) (hm : ∀ f ∈ G, f.1.length ≤ 9223372036854775807 ∧ f.2.length ≤ 9223372036854775807) (hn : G.length ≤ 1000000) (W : World) (hk : Old w W) :
    Calls Try.prog 25 #[.slice A G.length cap] W (OfW w G W) := by
  refine (of_any (cap := cap) (h.below hk.below) hn).mono ?_
  rintro e w' hp
  obtain ⟨A1, cap1, rfl, hown, hf, hb⟩ := RowPost.at hp hm
  exact ⟨A1, cap1, rfl, hf, fun ad ha => by subst ha; exact (own_lt hown _ rfl).1, ⟨hb⟩, hk.trans ⟨hb⟩⟩
theorem sameW {B : Option Addr} {cb : Nat} {gs : List (List UInt8 × List UInt8)} {w : World} (hB : FldsAt B gs w) (hm : gs.length ≤ 1000000) (A : Option Addr) (ca n : Nat) (W : World) (hn : gs.length = n) (hA : FldsAt A gs W) (hk : Old w W) :
    Calls Try.prog 24 #[.slice A n ca, .slice B gs.length cb] W fun e w' => e = .returned (.bool true) ∧ Old W w' ∧ Old w w' := by
  subst hn
  refine (same_any (ca := ca) (cb := cb) hA (hB.below hk.below) hm hm).mono ?_
  rintro e w' ⟨rfl, hb⟩
  exact ⟨by rw [decide_eq_true rfl], ⟨hb⟩, hk.trans ⟨hb⟩⟩
/-- A later world in which block B0 is still o. -/
structure KW (w : World) (B0 : Nat) (o : Obj) (W : World) : Prop where
  below : Below w.heap.size w W
  blk : W.heap[B0]? = some o
theorem KW.alloc {w W : World} {B0 : Nat} {o : Obj} (h : KW w B0 o W) (x : Obj) : KW w B0 o (W.alloc x) := ⟨h.below.alloc h.below.size x, heap_old_at h.blk x⟩
theorem KW.drew {w W : World} {B0 : Nat} {o : Obj} (h : KW w B0 o W) : KW w B0 o W.drew := ⟨h.below.drew, h.blk⟩
theorem KW.old {w W w' : World} {B0 : Nat} {o : Obj} (h : KW w B0 o W) (k : Old W w') : KW w B0 o w' := ⟨h.below.trans (k.below.mono h.below.size), k.blk h.blk⟩
/-- What a cut of the list leaves, in whatever later world. -/
def CutAtW (w : World) (B0 : Nat) (o : Obj) (G : List (List UInt8 × List UInt8)) (ng : Nat) (W : World) (e : Ending) (w' : World) : Prop :=
  ∃ A cap, e = .returned (.slice A ng cap) ∧ FldsAt A G w' ∧ (∀ ad, A = some ad → ad.block ≠ B0 ∧ ad.block < w'.heap.size) ∧ KW w B0 o w' ∧ Old W w'
theorem cutW {A : Option Addr} {cap B0 : Nat} {o : Obj} {fs : List (List UInt8 × List UInt8)} {w : World} (h : FldsAt A fs w) (hn : fs.length ≤ 9223372036854775807) (W : World) (hk : KW w B0 o W) :
    Calls Try.prog 14 #[.slice A fs.length cap] W (CutAtW w B0 o (cutF fs) (cutF fs).length W) := by
  refine (cut_any (cap := cap) (h.below hk.below) hn).mono ?_
  rintro e w' hp
  obtain ⟨A1, cap1, rfl, hown, hf, hb⟩ := RowPost.at hp (CutS.of fs).max
  refine ⟨A1, cap1, rfl, hf, fun ad ha => ?_, hk.old ⟨hb⟩, ⟨hb⟩⟩
  subst ha
  have h1 := (own_lt hown _ rfl).1
  have h3 := (own_lt hown _ rfl).2
  have h2 : B0 < W.heap.size := by
    rcases Nat.lt_or_ge B0 W.heap.size with h | h
    · exact h
    · have := hk.blk; rw [Array.getElem?_eq_none h] at this; cases this
  exact ⟨by omega, h3⟩
def CutOneW (w : World) (B0 : Nat) (o : Obj) (n b : List UInt8) (W : World) (e : Ending) (w' : World) : Prop :=
  ∃ gb cap, e = .returned (.slice (some ⟨gb, 0, none⟩) 1 cap) ∧ w'.cell? ⟨gb, 0, none⟩ = some (strV n) ∧ w'.cell? ⟨gb, 1, none⟩ = some (strV b) ∧ KW w B0 o w' ∧ Old W w'
theorem cutOneW {B0 g : Nat} {o : Obj} {n b : List UInt8} {w : World} (h1 : n.length ≤ 9223372036854775807) (h2 : b.length ≤ 9223372036854775807) (W : World) (hk : KW w B0 o W) (hb : W.heap[g]? = some (.cells #[strV n, strV b] 25 (0, 0))) :
    Calls Try.prog 14 #[.slice (some ⟨g, 0, none⟩) 1 1] W (CutOneW w B0 o (n.take 60) (b.take 9000) W) := by
  refine (cut_one (cap := 1) hb h1 h2).mono ?_
  rintro e w' ⟨gb, cap, rfl, _, _, k0, k1, hb'⟩
  exact ⟨gb, cap, rfl, k0, k1, hk.old ⟨hb'⟩, ⟨hb'⟩⟩
theorem heap_second {w : World} (x y : Obj) : ((w.alloc x).alloc y).heap[w.heap.size + 1]? = some y := heap_new_at (by simp) y
theorem lt_old {A : Option Addr} {B0 : Nat} {w1 w2 : World} (h : ∀ ad, A = some ad → ad.block ≠ B0 ∧ ad.block < w1.heap.size) (hs : w1.heap.size ≤ w2.heap.size) : ∀ ad, A = some ad → ad.block ≠ B0 ∧ ad.block < w2.heap.size := fun ad ha => ⟨(h ad ha).1, Nat.lt_of_lt_of_le (h ad ha).2 hs⟩
theorem cut2_end {A : Option Addr} {cap ng B0 : Nat} {x y : Value} {G : List (List UInt8 × List UInt8)} {n b : List UInt8} {w wl : World} (hf : FldsAt A G wl) (hne : ∀ ad, A = some ad → ad.block ≠ B0 ∧ ad.block < wl.heap.size) (hk : KW w B0 (.cells #[x, y] 25 (0, 0)) wl) (hng : G.length = ng) (hB : B0 = w.heap.size := by rfl) :
    Cut2 B0 G n b w (.slice A ng cap) ((wl.setCell ⟨B0, 0, none⟩ (.string (bsOf n))).setCell ⟨B0, 1, none⟩ (.string (bsOf b))) := by
  subst hng; subst hB
  have hkk : Kept (fun k => k = w.heap.size) wl ((wl.setCell ⟨w.heap.size, 0, none⟩ (.string (bsOf n))).setCell ⟨w.heap.size, 1, none⟩ (.string (bsOf b))) := ((Kept.refl (fun k => k = w.heap.size) wl).setCell (p := ⟨w.heap.size, 0, none⟩) (fun _ => rfl) _).setCell (p := ⟨w.heap.size, 1, none⟩) (fun _ => rfl) _
  exact ⟨A, cap, rfl, hf.kept hkk (fun ad ha => (hne ad ha).1), fun ad ha => (by have := (hne ad ha).2; simp; exact this), (hk.below.setCell (Nat.le_refl _) _).setCell (Nat.le_refl _) _, heap_set (heap_set hk.blk _) _⟩

set_option maxRecDepth 10000 in
set_option maxHeartbeats 8000000 in
theorem withLaw_any {A : Option Addr} {cap : Nat} (fs : List (List UInt8 × List UInt8)) (n b : List UInt8) (w : World) (m : Int) (hm : w.cell? ⟨0, 0, none⟩ = some (.int .i64 m)) (h : FldsAt A fs w) (hn : fs.length ≤ 9223372036854775807) (h1 : n.length ≤ 9223372036854775807) (h2 : b.length ≤ 9223372036854775807) :
    Calls Try.prog 9 #[.slice A fs.length cap, .agg #[strV n, strV b]] w fun e w' => e = .returned (.bool true) ∧ Below w.heap.size w w' := by
  have h0 := World.block_lt_of_cell? w _ hm
  have HM := Lib.hid hm
  have HA := Lib.hid h
  have C1 := Lib.hid (cutW (cap := cap) (B0 := w.heap.size) (o := .cells #[strV n, strV b] 25 (0, 0)) h hn)
  have C2 := Lib.hid (fun (g : Nat) => cutOneW (w := w) (B0 := w.heap.size) (o := .cells #[strV n, strV b] 25 (0, 0)) (g := g) h1 h2)
  have hS := CutS.of fs
  obtain ⟨nf, hnf⟩ : ∃ nf, fs.length = nf := ⟨_, rfl⟩
  rw [hnf] at C1 ⊢
  obtain ⟨G, hG⟩ : ∃ G, cutF fs = G := ⟨_, rfl⟩
  rw [hG] at hS C1
  clear hnf hG hn hm h
  have HS := Lib.hid hS
  obtain ⟨n', hn'⟩ : ∃ n', n.take 60 = n' := ⟨_, rfl⟩
  obtain ⟨b', hb'⟩ : ∃ b', b.take 9000 = b' := ⟨_, rfl⟩
  have l1 : n'.length ≤ 60 := by rw [← hn', List.length_take]; omega
  have l2 : b'.length ≤ 9000 := by rw [← hb', List.length_take]; omega
  unfold CutOneW at C2
  rw [hn', hb'] at C2
  obtain ⟨ng, hng⟩ : ∃ ng, G.length = ng := ⟨_, rfl⟩
  have HNG := Lib.hid hng
  have hn70 : ng ≤ 70 := by rw [← hng]; exact hS.len
  unfold CutAtW at C1
  rw [hng] at C1
  clear hS hng hn' hb' h1 h2
  have hP0 : KW w w.heap.size (.cells #[strV n, strV b] 25 (0, 0)) (w.alloc (.cells #[strV n, strV b] 25)) := ⟨(Below.refl _ _).alloc (Nat.le_refl _) _, heap_new_at rfl _⟩
  have HP0 := Lib.hid hP0
  clear hP0
  unfold strV at C1 C2 HP0 ⊢
  go_enter Try.func9, Try.ntmps9
  go_upto_region 1 with fail
  go_cut [0] (fun s0 wx => Cut2 w.heap.size G n' b' w s0 wx)
  case first =>
    go_region_law (go_simp; go_at_call 14; first
      | (with_reducible refine (C1.out _ (by repeat (first | exact HP0.out | assumption | refine KW.drew ?_ | refine KW.alloc ?_ _))).mono ?_
         rintro e w1 ⟨A1, cap1, rfl, hf1, hne1, hkw1, hold1⟩
         obtain ⟨q0, q1, q2, q3⟩ := two_cells hkw1.blk
         (try (have k0' := hold1.cell k0; have k1' := hold1.cell k1)))
      | (with_reducible refine (C2.out _ _ (by repeat (first | exact HP0.out | assumption | refine KW.drew ?_ | refine KW.alloc ?_ _)) (by first | exact heap_second _ _ | exact heap_new_at rfl _ | exact hold1.blk (heap_second _ _))).mono ?_
         rintro e w2 ⟨gb, cap2, rfl, k0, k1, hkw2, hold2⟩
         obtain ⟨q20, q21, q22, q23⟩ := two_cells hkw2.blk))
    all_goals
      go_wp2_with fail
      go_meet
      first
        | exact cut2_end hf1 hne1 hkw1 HNG.out
        | exact cut2_end (hf1.old hold2) (lt_old hne1 hold2.below.size) hkw2 HNG.out
        | exact cut2_end ((hf1.kept ((Kept.refl (fun _ => False) w1).alloc _) (fun _ _ f => f)).old hold2) (lt_old hne1 (by have := hold2.below.size; simp at this; omega)) hkw2 HNG.out
  case rest =>
    obtain ⟨A1, cap1, rfl, hf1, hl1, hb1, hblk⟩ := hcut
    have HF1 := Lib.hid hf1
    have HB1 := Lib.hid hb1
    have HBK := Lib.hid hblk
    have HL1 := Lib.hid hl1
    rw [HNG.out]
    have C3 := Lib.hid ((to_any (cap := cap1) hf1 (by rw [HNG.out]; omega)).mono fun e w' h => RowPost.at h (by rw [List.take_of_length_le (by rw [HNG.out]; exact hn70)]; exact HS.out.max))
    rw [List.take_of_length_le (by rw [HNG.out]; exact hn70)] at C3
    unfold RowAt at C3
    rw [HNG.out] at C3
    clear hf1 hb1 hblk hl1 C1 C2 HA HP0
    obtain ⟨R, hR⟩ : ∃ R, withoutF n' G = R := ⟨_, rfl⟩
    obtain ⟨nr, hnr⟩ : ∃ nr, R.length = nr := ⟨_, rfl⟩
    have HR := Lib.hid hR
    have HNR := Lib.hid hnr
    have hnr2 : nr ≤ 70 := by
      rw [← hnr, ← hR]
      have := List.length_filter_le (fun f : List UInt8 × List UInt8 => !sameB f.1 n') G
      unfold withoutF
      have h3 := HNG.out
      omega
    have HRS : Hid (∀ f ∈ R, f.1.length ≤ 60 ∧ f.2.length ≤ 9000) := Lib.hid (by rw [← hR]; exact filter_big HS.out.small)
    have HRX : Hid (∀ f ∈ R ++ [(n', b')], f.1.length ≤ 9223372036854775807 ∧ f.2.length ≤ 9223372036854775807) := Lib.hid (by
      intro f hf
      rcases List.mem_append.1 hf with hf | hf
      · have := HRS.out f hf; omega
      · rw [List.mem_singleton] at hf; subst hf; show n'.length ≤ _ ∧ b'.length ≤ _; omega)
    have HRM : Hid (∀ f ∈ R, f.1.length ≤ 9223372036854775807 ∧ f.2.length ≤ 9223372036854775807) := Lib.hid fun f hf => by have := HRS.out f hf; omega
    clear hR hnr
    go_wp2_with fail
    refine C3.out.mono ?_
    rintro e w2 ⟨A5, cap5, rfl, hown5, hf5, hb2⟩
    have HF5 := Lib.hid hf5
    have HF1 := Lib.hid (HF1.out.below hb2)
    have HB2 := Lib.hid (HB1.out.trans (hb2.mono HB1.out.size))
    have HBK2 := Lib.hid ((hb2.block w.heap.size (lt_of_block HBK.out)).trans HBK.out)
    have HL1 : Hid (∀ ad, A1 = some ad → ad.block < w2.heap.size) := Lib.hid fun ad ha => Nat.lt_of_lt_of_le (HL1.out ad ha) hb2.size
    have HL5 : Hid (∀ ad, A5 = some ad → ad.block < w2.heap.size) := Lib.hid fun ad ha => by subst ha; exact (own_lt hown5 _ rfl).2
    have C4 := Lib.hid ((rwithout_any (cap := cap1) (bsOf n') HF1.out HS.out.big (by rw [HNG.out]; omega) (by rw [bsOf_size]; omega)).mono fun e w' h => RowPost.at h (by rw [bsOf_data, HR.out]; exact HRM.out))
    rw [bsOf_data, HR.out] at C4
    unfold RowAt at C4
    rw [HNG.out, HNR.out] at C4
    obtain ⟨t0, t1, _, _⟩ := two_cells HBK2.out
    unfold strV at t0 t1
    clear hown5 hf5 hb2 C3
    go_wp2_with fail
    refine C4.out.mono ?_
    rintro e w3 ⟨A6, cap6, rfl, hown6, hf6, hb3⟩
    have HF6 := Lib.hid hf6
    have HO6 := Lib.hid hown6
    have HF1 := Lib.hid (HF1.out.below hb3)
    have HF5 := Lib.hid (HF5.out.below hb3)
    have HB3 := Lib.hid (HB2.out.trans (hb3.mono HB2.out.size))
    have HBK3 := Lib.hid ((hb3.block w.heap.size (lt_of_block HBK2.out)).trans HBK2.out)
    have HL1 : Hid (∀ ad, A1 = some ad → ad.block < w3.heap.size) := Lib.hid fun ad ha => Nat.lt_of_lt_of_le (HL1.out ad ha) hb3.size
    have HL5 : Hid (∀ ad, A5 = some ad → ad.block < w3.heap.size) := Lib.hid fun ad ha => Nat.lt_of_lt_of_le (HL5.out ad ha) hb3.size
    have HL6 : Hid (∀ ad, A6 = some ad → ad.block < w3.heap.size) := Lib.hid fun ad ha => by subst ha; exact (own_lt hown6 _ rfl).2
    have C5 := Lib.hid ((without_any (cap := cap5) (bsOf n') HF5.out HS.out.big (by rw [HNG.out]; omega) (by rw [bsOf_size]; omega)).mono fun e w' h => RowPost.at h (by rw [bsOf_data, HR.out]; exact HRM.out))
    rw [bsOf_data, HR.out] at C5
    unfold RowAt at C5
    rw [HNG.out, HNR.out] at C5
    obtain ⟨t0, t1, _, _⟩ := two_cells HBK3.out
    unfold strV at t0 t1
    clear hown6 hf6 hb3 C4
    go_wp2_with fail
    refine C5.out.mono ?_
    rintro e w4 ⟨A7, cap7, rfl, hown7, hf7, hb4⟩
    have HF7 := Lib.hid hf7
    have HO7 := Lib.hid hown7
    have HL7 : Hid (∀ j, Value.ownBlock (.slice A7 nr cap7) = some j → j < w4.heap.size) := Lib.hid fun j f => (own_lt hown7 j f).2
    have HF1 := Lib.hid (HF1.out.below hb4)
    have HF5 := Lib.hid (HF5.out.below hb4)
    have HF6 := Lib.hid (HF6.out.below hb4)
    have HO6 := Lib.hid (own_kept HO6.out (kept_of_below hb4) (fun _ _ f => f))
    have HB4 := Lib.hid (HB3.out.trans (hb4.mono HB3.out.size))
    have HBK4 := Lib.hid ((hb4.block w.heap.size (lt_of_block HBK3.out)).trans HBK3.out)
    have hz4 : w3.heap.size ≤ w4.heap.size := hb4.size
    have C6 := Lib.hid ((with_any (cap := cap5) n' b' HF5.out HS.out.big (by rw [HNG.out]; omega) (by omega)).mono fun e w' h => RowPost.at h (by rw [HR.out]; exact HRX.out))
    rw [HR.out] at C6
    unfold RowAt at C6
    have hrl : (R ++ [(n', b')]).length = nr + 1 := by rw [List.length_append, HNR.out]; rfl
    rw [HNG.out, hrl] at C6
    have HRL := Lib.hid hrl
    obtain ⟨t0, t1, _, _⟩ := two_cells HBK4.out
    unfold strV at t0 t1 C6
    clear hown7 hf7 hb4 C5 hrl
    go_wp2_with fail
    refine C6.out.mono ?_
    rintro e w5 ⟨A8, cap8, rfl, hown8, hf8, hb5⟩
    have HF8 := Lib.hid hf8
    have HO8 := Lib.hid hown8
    have HF1 := Lib.hid (HF1.out.below hb5)
    have HF5 := Lib.hid (HF5.out.below hb5)
    have HF6 := Lib.hid (HF6.out.below hb5)
    have HO6 := Lib.hid (own_kept HO6.out (kept_of_below hb5) (fun _ _ f => f))
    have HF7 := Lib.hid (HF7.out.below hb5)
    have HO7 := Lib.hid (own_kept HO7.out (kept_of_below hb5) (fun _ _ f => f))
    have HB5 := Lib.hid (HB4.out.trans (hb5.mono HB4.out.size))
    have HBK5 := Lib.hid ((hb5.block w.heap.size (lt_of_block HBK4.out)).trans HBK4.out)
    have hz5 : w4.heap.size ≤ w5.heap.size := hb5.size
    have HLA : Hid (∀ j, Value.ownBlock (.slice A7 nr cap7) = some j → j < w4.heap.size) := Lib.hid fun j f => by have := HL7.out j f; exact this
    clear hown8 hf8 hb5 C6
    go_upto_region 6 with fail
    go_cut [51] (fun s51 wx => s51 = .bool false ∧ Below w5.heap.size w5 wx)
    case first =>
      obtain ⟨i0, hi, hz0, hz1, hz2⟩ := info_parts Try.rfl_info
      have HI := Lib.hid hi
      have HZ0 := Lib.hid hz0
      have HZ1 := Lib.hid hz1
      have HZ2 := Lib.hid hz2
      clear hi hz0 hz1 hz2
      obtain ⟨t0, t1, _, _⟩ := two_cells HBK5.out
      unfold strV at t0 t1
      have D1 := Lib.hid (ofW (cap := cap7) HF7.out HRM.out (by rw [HNR.out]; omega))
      have D2 := Lib.hid (ofW (cap := cap8) HF8.out HRX.out (by rw [HRL.out]; omega))
      have D3 := Lib.hid (sameW (w := w5) (cb := cap6) (B := A6) (gs := R) HF6.out (by rw [HNR.out]; omega))
      have D5 := Lib.hid (fun (A B : Option Addr) (ca cb : Nat) (W : World) (hA : FldsAt A (R ++ [(n', b')]) W) (hB : FldsAt B (R ++ [(n', b')]) W) => sameX (ca := ca) (cb := cb) hA hB (by rw [HRL.out]; omega))
      have hB05 : w.heap.size < w5.heap.size := lt_of_block HBK5.out
      unfold OfW at D1 D2
      rw [HNR.out] at D1 D3
      rw [HRL.out] at D2 D5
      have HXP : Hid (0 < (R ++ [(n', b')]).length) := Lib.hid (by simp)
      have hO10 := Lib.hid HO6.out
      by_cases hnr0 : nr = 0
      · subst hnr0
        have hR0 : R = [] := List.eq_nil_of_length_eq_zero HNR.out
        go_region_held3 (fun w' => w'.cell? ⟨w.heap.size, 0, none⟩ = some (.string (bsOf n')) ∧ w'.cell? ⟨w.heap.size, 1, none⟩ = some (.string (bsOf b')))
          (first | go_keep | exact ⟨ho10.cell t0, ho10.cell t1⟩ | exact ⟨ho11.cell t0, ho11.cell t1⟩ | exact ⟨ho12.cell t0, ho12.cell t1⟩ | exact ⟨ho14.cell t0, ho14.cell t1⟩ | exact ⟨ho13.cell t0, ho13.cell t1⟩ | exact ⟨ho15.cell t0, ho15.cell t1⟩ | fail)
          (first
            | (go_at_call_of 25 (Value.slice A7 0 cap7); refine (D1.out _ (by repeat (first | exact Old.refl _ | refine Old.alloc ?_ _ | refine Old.drew ?_ | exact ho10 | exact ho11 | exact ho12 | exact ho13 | exact ho14))).mono ?_; rintro e w10 ⟨A10, cap10, rfl, hf10, hl10, hh10, ho10⟩)
            | (go_at_call 25; refine (D2.out _ (by repeat (first | exact Old.refl _ | refine Old.alloc ?_ _ | refine Old.drew ?_ | exact ho10 | exact ho11 | exact ho12 | exact ho13 | exact ho14))).mono ?_; rintro e w12 ⟨A12, cap12, rfl, hf12, hl12, hh12, ho12⟩; (try have hne13 : ∀ ad, A12 = some ad → ad.block ≠ g13 := (fun ad ha => by have q := hl12 ad ha; (try simp at q); omega)); (try have hF14 := hF14.old hh12))
            | (go_at_call 24; first | (with_reducible refine (D3.out _ _ _ _ rfl hf10 ho10).mono ?_; rintro e w11 ⟨rfl, hh11, ho11⟩) | (refine (D5.out _ _ _ _ _ hf12 hF14).mono ?_; rintro e w15 ⟨rfl, hh15⟩; have ho15 : Old w5 w15 := Old.trans (by repeat (first | exact Old.refl _ | refine Old.alloc ?_ _ | refine Old.drew ?_ | exact ho10 | exact ho11 | exact ho12 | exact ho13 | exact ho14)) hh15))
            | (refine step_append_zero (by simp [Region.wanted, yielded]) _ _ 26 (by rfl) 25 i0 Try.underlying26 HI.out _ _ A6 cap6 (by rfl) (by rfl) ?_)
            | (refine step_append_g (by simp [Region.wanted, yielded]) _ _ 26 (by rfl) w5.heap.size 25 i0 (.agg #[.string ⟨#[]⟩, .string ⟨#[]⟩]) 2 32 Try.underlying26 HI.out HZ0.out HZ1.out HZ2.out rfl (by decide) (.slice (some ⟨_, 0, none⟩) 0 0) 0 [] (by rfl) (own_empty (by repeat (first | exact heap_new_at (by simp) _ | refine heap_old_at ?_ _ | refine Old.blk hh12 ?_ | refine OldN.blk2 hn13 ?_)) (by have q1 := ho11.below.size; (try have q2 := ho12.below.size); (try have q3 := ho13.below.size); simp; try omega)) ⟨_, 0, none⟩ 1 1 [.string (bsOf n'), .string (bsOf b')] (by rfl) (by rfl) (World.news_of_block (cs := #[.string (bsOf n'), .string (bsOf b')]) (t := 25) (fr := (0, 0)) (by repeat (first | exact heap_new_at (by simp) _ | refine heap_old_at ?_ _ | refine Old.blk hh12 ?_ | refine OldN.blk2 hn13 ?_))) (one_two _ _) (by decide) (by unfold maxLen; omega) (by omega) (by have q1 := ho11.below.size; (try have q2 := ho12.below.size); (try have q3 := ho13.below.size); simp; try omega) _ rfl ?_; intro g14 cap14 w14 hown14 hgrow14 hlies14 hlt14; have ho14 : Old w5 w14 := old_grown (by repeat (first | exact Old.refl _ | refine Old.alloc ?_ _ | refine Old.drew ?_ | exact ho10 | exact ho11 | exact ho12 | exact ho13 | exact ho14)) hgrow14 (fun j e => by have q1 := ho11.below.size; (try have q2 := ho12.below.size); simp [Value.ownBlock] at e; omega); have hF14 : FldsAt (some ⟨g14, 0, none⟩) (R ++ [(n', b')]) w14 := fld_of14 (n := 0) (by rw [hR0]; exact hown14) HNR.out HRX.out; (try (have hf12 := fld_grown2 hgrow14 hf12 (by repeat (first | exact Old.refl _ | refine Old.alloc ?_ _ | refine Old.drew ?_)) (fun hf => ne_empty hf HXP.out (by repeat (first | exact heap_new_at (by simp) _ | refine heap_old_at ?_ _ | refine Old.blk hh12 ?_ | refine OldN.blk2 hn13 ?_))))))
            | fail)
        all_goals
          go_wp2_with fail
          go_meet
          exact ⟨rfl, ho15.below⟩
      · obtain ⟨⟨g6, o6, p6⟩, hA6, hg6⟩ := HF6.out.at_ (by rw [HNR.out]; omega)
        subst hA6
        obtain ⟨g6', hA6'⟩ := own_some HO6.out (by omega)
        injection hA6' with hA6'
        injection hA6' with e1 e2 e3
        subst e1; subst e2; subst e3
        have hnews : Hid (∀ j u, (cellsF R)[j]? = some u → w5.cell? ((⟨g6, 0, none⟩ : Addr).add j) = some u) := Lib.hid fun j u hj => HO6.out.cells rfl j u hj
        have hcl : Hid ((cellsF R).length = nr * 2) := Lib.hid (by rw [cellsF_len, HNR.out, Nat.mul_comm])
        go_region_held3 (fun w' => w'.cell? ⟨w.heap.size, 0, none⟩ = some (.string (bsOf n')) ∧ w'.cell? ⟨w.heap.size, 1, none⟩ = some (.string (bsOf b')))
          (first | go_keep | exact ⟨ho10.cell t0, ho10.cell t1⟩ | exact ⟨ho11.cell t0, ho11.cell t1⟩ | exact ⟨ho12.cell t0, ho12.cell t1⟩ | exact ⟨ho14.cell t0, ho14.cell t1⟩ | exact ⟨ho13.cell t0, ho13.cell t1⟩ | exact ⟨ho15.cell t0, ho15.cell t1⟩ | fail)
          (first
            | (go_at_call_of 25 (Value.slice A7 nr cap7); refine (D1.out _ (by repeat (first | exact Old.refl _ | refine Old.alloc ?_ _ | refine Old.drew ?_ | exact ho10 | exact ho11 | exact ho12 | exact ho13 | exact ho14))).mono ?_; rintro e w10 ⟨A10, cap10, rfl, hf10, hl10, hh10, ho10⟩)
            | (go_at_call 25; refine (D2.out _ (by repeat (first | exact Old.refl _ | refine Old.alloc ?_ _ | refine Old.drew ?_ | exact ho10 | exact ho11 | exact ho12 | exact ho13 | exact ho14))).mono ?_; rintro e w12 ⟨A12, cap12, rfl, hf12, hl12, hh12, ho12⟩; (try have hne13 : ∀ ad, A12 = some ad → ad.block ≠ g13 := (fun ad ha => by have q := hl12 ad ha; (try simp at q); omega)); (try have hF14 := hF14.old hh12))
            | (go_at_call 24; first | (with_reducible refine (D3.out _ _ _ _ rfl hf10 ho10).mono ?_; rintro e w11 ⟨rfl, hh11, ho11⟩) | (refine (D5.out _ _ _ _ _ hf12 hF14).mono ?_; rintro e w15 ⟨rfl, hh15⟩; have ho15 : Old w5 w15 := Old.trans (by repeat (first | exact Old.refl _ | refine Old.alloc ?_ _ | refine Old.drew ?_ | exact ho10 | exact ho11 | exact ho12 | exact ho13 | exact ho14)) hh15))
            | (refine step_append_g (by simp [Region.wanted, yielded]) _ _ 26 (by rfl) w5.heap.size 25 i0 (.agg #[.string ⟨#[]⟩, .string ⟨#[]⟩]) 2 32 Try.underlying26 HI.out HZ0.out HZ1.out HZ2.out rfl (by decide) (.slice (some ⟨_, 0, none⟩) 0 0) 0 [] (by rfl) (own_empty (by repeat (first | exact heap_new_at (by simp) _ | refine heap_old_at ?_ _ | refine Old.blk hh12 ?_ | refine OldN.blk2 hn13 ?_)) (by have q1 := ho11.below.size; (try have q2 := ho12.below.size); (try have q3 := ho13.below.size); simp; try omega)) ⟨g6, 0, none⟩ nr cap6 (cellsF R) (by rfl) hcl.out (fun j u hj => Old.cell (by repeat (first | exact Old.refl _ | refine Old.alloc ?_ _ | refine Old.drew ?_ | exact ho10 | exact ho11 | exact ho12 | exact ho13 | exact ho14)) (hnews.out j u hj)) (cells_one R) (by omega) (by unfold maxLen; omega) (by omega) (by have q1 := ho11.below.size; (try have q2 := ho12.below.size); (try have q3 := ho13.below.size); simp; try omega) _ rfl ?_; intro g13 cap13 w13 hown13 hgrow13 hlies13 hlt13; rw [Nat.zero_add nr]; have ho13 : Old w5 w13 := old_grown (by repeat (first | exact Old.refl _ | refine Old.alloc ?_ _ | refine Old.drew ?_ | exact ho10 | exact ho11 | exact ho12 | exact ho13 | exact ho14)) hgrow13 (fun j e => by have q1 := ho11.below.size; (try have q2 := ho12.below.size); simp [Value.ownBlock] at e; omega); have hn13 := oldN_grown hgrow13 (by repeat (first | exact heap_new_at (by simp) _ | refine heap_old_at ?_ _ | refine Old.blk hh12 ?_ | refine OldN.blk2 hn13 ?_)); have hown13 : w13.ownsRow w5.heap.size 25 2 (.slice (some ⟨g13, 0, none⟩) nr cap13) nr (cellsF R) := (by simpa using hown13); (try (have hne13 := ne_lies2 hgrow13 hlies13 hf12 (by repeat (first | exact Old.refl _ | refine Old.alloc ?_ _ | refine Old.drew ?_)) HXP.out (by repeat (first | exact heap_new_at (by simp) _ | refine heap_old_at ?_ _ | refine Old.blk hh12 ?_ | refine OldN.blk2 hn13 ?_)); have hf12 := fld_grown2 hgrow13 hf12 (by repeat (first | exact Old.refl _ | refine Old.alloc ?_ _ | refine Old.drew ?_)) (fun hf => ne_empty hf HXP.out (by repeat (first | exact heap_new_at (by simp) _ | refine heap_old_at ?_ _ | refine Old.blk hh12 ?_ | refine OldN.blk2 hn13 ?_))))))
            | (refine step_append_g (by simp [Region.wanted, yielded]) _ _ 26 (by rfl) w5.heap.size 25 i0 (.agg #[.string ⟨#[]⟩, .string ⟨#[]⟩]) 2 32 Try.underlying26 HI.out HZ0.out HZ1.out HZ2.out rfl (by decide) (.slice (some ⟨g13, 0, none⟩) nr cap13) nr (cellsF R) (by rfl) (own_kept hown13 (kept_of_below (Old.below (by repeat (first | exact Old.refl _ | refine Old.alloc ?_ _ | refine Old.trans ?_ hh12)))) (fun _ _ f => f)) ⟨_, 0, none⟩ 1 1 [.string (bsOf n'), .string (bsOf b')] (by rfl) (by rfl) (World.news_of_block (cs := #[.string (bsOf n'), .string (bsOf b')]) (t := 25) (fr := (0, 0)) (by repeat (first | exact heap_new_at (by simp) _ | refine heap_old_at ?_ _ | refine Old.blk hh12 ?_ | refine OldN.blk2 hn13 ?_))) (one_two _ _) (by decide) (by unfold maxLen; omega) (by omega) (by have q1 := ho11.below.size; (try have q2 := ho12.below.size); (try have q3 := ho13.below.size); simp; try omega) _ rfl ?_; intro g14 cap14 w14 hown14 hgrow14 hlies14 hlt14; have ho14 : Old w5 w14 := old_grown (by repeat (first | exact Old.refl _ | refine Old.alloc ?_ _ | refine Old.drew ?_ | exact ho10 | exact ho11 | exact ho12 | exact ho13 | exact ho14)) hgrow14 (fun j e => (own_lt hown13 j e).1); have hF14 : FldsAt (some ⟨g14, 0, none⟩) (R ++ [(n', b')]) w14 := fld_of14 hown14 HNR.out HRX.out; (try (have hf12 := fld_grown2 hgrow14 hf12 (by repeat (first | exact Old.refl _ | refine Old.alloc ?_ _ | refine Old.drew ?_)) (fun _ => ne_some hne13))))
            | fail)
        all_goals
          go_wp2_with fail
          go_meet
          exact ⟨rfl, ho15.below⟩
    case rest =>
      obtain ⟨rfl, hbx⟩ := hcut
      have HF1 := Lib.hid (HF1.out.below hbx)
      have HF5 := Lib.hid (HF5.out.below hbx)
      have HO7 := Lib.hid (own_kept HO7.out (kept_of_below hbx) (fun _ _ f => f))
      have HO8 := Lib.hid (own_kept HO8.out (kept_of_below hbx) (fun _ _ f => f))
      have HBX := Lib.hid (HB5.out.trans (hbx.mono HB5.out.size))
      have hzx : w5.heap.size ≤ wc.heap.size := hbx.size
      obtain ⟨wz, rfl⟩ : ∃ x, x = wc := ⟨_, rfl⟩
      clear hbx HF6 HF7 HF8
      go_wp2
      go_loopw [9] (fun v wr => ∃ (k : Nat) (xs : List Value), k ≤ nr ∧ v = .int .i64 k ∧ wr.ownsRow w3.heap.size 28 2 (.slice A7 nr cap7) nr xs ∧ Kept (fun j => Value.ownBlock (.slice A7 nr cap7) = some j) wz wr) (fun v _ => nr - (RowKit.intOf v).toNat)
      case atStart => exact ⟨0, _, Nat.zero_le _, rfl, HO7.out, Kept.refl _ _⟩
      case round =>
        obtain ⟨k, xs, hk, rfl, hown, hkk⟩ := hrel
        have HO := Lib.hid hown
        have HK := Lib.hid hkk
        clear hown hkk
        by_cases hlt : k < nr
        · obtain ⟨g7, rfl⟩ := own_some HO.out (by omega)
          have hxl := own_xs HO.out
          obtain ⟨u, c0, f0, hg⟩ := own_at HO.out (j := k * 2 + 1) (by omega)
          have i1 : (0 : Int) ≤ (k : Int) := Int.natCast_nonneg _
          have HSET := Lib.hid (own_set HO.out (i := k * 2 + 1) (by omega) (.string ⟨#[99, 104, 97, 110, 103, 101, 100]⟩))
          clear hxl
          go_wp2
          go_roundw
          case rel => exact ⟨k + 1, _, by omega, by go_num, HSET.out, HK.out.setCell (p := ⟨g7, k * 2 + 1, none⟩) (fun _ => rfl) _⟩
          case measure => simp [RowKit.intOf]; omega
        · obtain rfl : k = nr := by omega
          have HB7 := Lib.hid (HBX.out.trans (HK.out.toBelow (fun j f => Nat.le_trans HB3.out.size (own_lt HO7.out j f).1) HBX.out.size))
          have HF1 := Lib.hid (HF1.out.kept HK.out (fun ad ha f => by have h1 := (own_lt HO7.out _ f).1; have h2 := HL1.out ad ha; omega))
          have HF5 := Lib.hid (HF5.out.kept HK.out (fun ad ha f => by have h1 := (own_lt HO7.out _ f).1; have h2 := HL5.out ad ha; omega))
          have HO8 := Lib.hid (own_kept HO8.out HK.out (fun j e8 f => by have h1 := (own_lt HO8.out _ e8).1; have h2 := HLA.out j f; omega))
          obtain ⟨wq, rfl⟩ : ∃ x, x = wr := ⟨_, rfl⟩
          clear HO HK
          go_wp2
          go_loopw [10] (fun v wr => ∃ (k' : Nat) (xs : List Value), k' ≤ k + 1 ∧ v = .int .i64 k' ∧ wr.ownsRow w4.heap.size 28 2 (.slice A8 (k + 1) cap8) (k + 1) xs ∧ Kept (fun j => Value.ownBlock (.slice A8 (k + 1) cap8) = some j) wq wr) (fun v _ => k + 1 - (RowKit.intOf v).toNat)
          case atStart => exact ⟨0, _, Nat.zero_le _, rfl, HO8.out, Kept.refl _ _⟩
          case round =>
            obtain ⟨q, ys, hq, rfl, hown, hkk⟩ := hrel
            have HO := Lib.hid hown
            have HK := Lib.hid hkk
            clear hown hkk
            by_cases hlt2 : q < k + 1
            · obtain ⟨g8, rfl⟩ := own_some HO.out (by omega)
              have hxl := own_xs HO.out
              obtain ⟨u, c0, f0, hg⟩ := own_at HO.out (j := q * 2) (by omega)
              have i1 : (0 : Int) ≤ (q : Int) := Int.natCast_nonneg _
              have HSET := Lib.hid (own_set HO.out (i := q * 2) (by omega) (.string ⟨#[67, 104, 97, 110, 103, 101, 100]⟩))
              clear hxl
              go_wp2
              go_roundw
              case rel => exact ⟨q + 1, _, by omega, by go_num, HSET.out, HK.out.setCell (p := ⟨g8, q * 2, none⟩) (fun _ => rfl) _⟩
              case measure => simp [RowKit.intOf]; omega
            · have HB8 := Lib.hid (HB7.out.trans (HK.out.toBelow (fun j f => Nat.le_trans HB4.out.size (own_lt HO8.out j f).1) HB7.out.size))
              have HF1 := Lib.hid (HF1.out.kept HK.out (fun ad ha f => by have h1 := (own_lt HO8.out _ f).1; have h2 := HL1.out ad ha; omega))
              have HF5 := Lib.hid (HF5.out.kept HK.out (fun ad ha f => by have h1 := (own_lt HO8.out _ f).1; have h2 := HL5.out ad ha; omega))
              have CK := Lib.hid (known_any wr m (((bcell HB8.out).1 _ _ h0).trans HM.out))
              clear HO HK
              go_wp2_with fail
              refine CK.out.mono ?_
              rintro e w6 ⟨rfl, hb6⟩
              have HB9 := Lib.hid (HB8.out.trans (hb6.mono HB8.out.size))
              have HF1 := Lib.hid (HF1.out.below hb6)
              have C7 := Lib.hid ((of_any (cap := cap5) (HF5.out.below hb6) (by rw [HNG.out]; omega)).mono fun e w' h => RowPost.at h HS.out.max)
              unfold RowAt at C7
              rw [HNG.out] at C7
              clear hb6
              go_wp2_with fail
              refine C7.out.mono ?_
              rintro e w7 ⟨A9, cap9, rfl, _, hf9, hb7⟩
              have HB10 := Lib.hid (HB9.out.trans (hb7.mono HB9.out.size))
              have C8 := Lib.hid (same_any (ca := cap9) (cb := cap1) hf9 (HF1.out.below hb7) (by rw [HNG.out]; omega) (by rw [HNG.out]; omega))
              rw [HNG.out, decide_eq_true (rfl : G = G)] at C8
              clear hf9 hb7 C7
              go_wp2_with fail
              refine C8.out.mono ?_
              rintro e w8 ⟨rfl, hb8⟩
              have HB11 := Lib.hid (HB10.out.trans (hb8.mono HB10.out.size))
              clear hb8
              go_wp2
              go_ret
              exact ⟨rfl, HB11.out⟩
set_option maxRecDepth 100000 in
theorem fieldWith_lifted (os : Os) (started : os.Started) (H : Type) (enc : TypeId × Value → H) :
    ReturnsInHanded {} Try.checked os 9 .any (Rows.fieldWithSpec.pre6 enc Try.prog Try.f9 Rows.fieldWithRow.domain false) (Rows.fieldWithSpec.post enc Try.prog Try.f9 false true false false) := by
  refine returnsInHanded_of_change_shaped (C := Try.checked) Try.own started (by kernel_rfl) Try.func9
    (ChangeSpec.witness6 (enc := enc) (C := Try.checked) false ⟨#[], #[.slice none 0 0, .agg #[.string ⟨#[]⟩, .string ⟨#[]⟩]], []⟩ 8 (by kernel_rfl) (by kernel_rfl) (by kernel_rfl) (by kernel_rfl)) ?_
  intro W base args ds gs before hval0 hW hcnd0 hsz0 hsh _
  have hval : ∀ (j : Nat) t v, Try.f9.params[j]? = some t → args[j]? = some v → Value.okWide Try.prog W .any base t v := hval0
  have hW' := hW
  have hltb : ∀ x ∈ before, x.block < W.heap.size := fun x hx => hW.lt x hx
  have hsz : (DataW.weightsEach Try.prog (Try.f9.params.toList ++ []) (ds ++ gs)).all (· ≤ reachBytes) = true := hsz0
  obtain ⟨p, q, hA0, hV, rfl, hfz, hnd⟩ := hW
  have hA : DataW.TrodAll enc Try.prog W 0 (fun _ => true) true Try.f9.params.toList args.toList ds p := hA0
  rw [Try.params9] at hA hval hsz
  obtain ⟨v0, v1, d0, d1, p0, p1, rfl, rfl, rfl, h0, h1⟩ := trodAll_two hA
  obtain ⟨rfl, rfl⟩ := trodVars_none hV
  obtain ⟨A0, fs0, cap0, rfl, y0, z0⟩ := flds_arg (hval 0 26 v0 rfl rfl) h0 (fun n hn => by have := List.all_eq_true.1 hsz n (DataW.weights_mem_each (j := 0) rfl rfl n hn); simpa using this)
  obtain ⟨a1, b1, rfl, y1, z1⟩ := fld_arg (hval 1 25 v1 rfl rfl) h1 (fun n hn => by have := List.all_eq_true.1 hsz n (DataW.weights_mem_each (j := 1) rfl rfl n hn); simpa using this)
  obtain ⟨m, hm⟩ := maxLen_cell hsh
  clear hA0 hval0 hsz0
  simp only [List.append_nil] at hW' hltb
  refine (withLaw_any fs0 a1 b1 W m hm z0 y0 y1 z1).mono fun e W' ⟨he, hb⟩ => ?_
  subst he
  refine ⟨_, rfl, post_of_below (pa := p0 ++ (p1)) (pv := []) hW' (fun _ _ _ => trodAll_mk1 (shut_bool Try.underlying4 true)) (fun sp hsp => ?_) (fun _ _ => rfl) (by simp) hb (ok_one (by kernel_rfl) rfl (okWide_bool_mk Try.underlying4 _))⟩
  refine trodAll_mk2 ?_ ?_
  · exact WideElems.Trod_stays Try.laidOut (by kernel_rfl) (of_decide_eq_true (by kernel_rfl)) h0 (fun x hx => hb.same (hltb x (by simp [hx]))) (fun x hx => hsp x (by simp [hx]))
  · exact WideElems.Trod_stays Try.laidOut (by kernel_rfl) (of_decide_eq_true (by kernel_rfl)) h1 (fun x hx => hb.same (hltb x (by simp [hx]))) (fun x hx => hsp x (by simp [hx]))

theorem fieldWith_holds : Rows.FieldWithSaid :=
  OpenClaim.holds_of_wide 9 Try.f9 rfl rfl rfl rfl rfl rfl rfl ⟨rfl, rfl, rfl, rfl, rfl⟩ rfl rfl rfl rfl rfl (by kernel_rfl) Try.func9 (by kernel_rfl)
    (of_decide_eq_true (by kernel_rfl)) (by unfold Func.isWrapper; rw [if_neg (of_decide_eq_false (by kernel_rfl))]; exact ⟨rfl, rfl⟩)
    (fun os started H enc _ => fieldWith_lifted os started H enc)
end Go.Proofs.Ytknamddpflkifaa
