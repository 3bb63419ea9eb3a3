/- article: Quote. Conditions: texts of at most 1000000 bytes. -/
import Derived.Test.YteecmcphbehfgaaGreatDoorB10
import Derived.Laws.EntriesVeiled
namespace Go.Proofs.YteecmcphbehfgaaGreatDoor
open Go.RowKit Go.Lib Go.Shelf
attribute [local go_sem] Oper.semAt_some

def quL : List (Nat × List UInt8) → List UInt8 → Option (List UInt8)
  | [], out => some out
  | x :: r, out => if 998 < (qtL x.2).length then none else quL r (out ++ (qtL x.2 ++ [10]))
/-- The quoted body, or an error. -/
def quS (l : List UInt8) : List UInt8 × Int :=
  if (ckI l).2 ≠ 0 then ([], (ckI l).2) else
  match quL (lineI l) [] with
  | none => ([], 5)
  | some out => if 65536 < out.length then ([], 5) else (out, 0)
def outL (pre : List (Nat × List UInt8)) : List UInt8 := (pre.map fun x => qtL x.2 ++ [10]).flatten
theorem outL_snoc (pre : List (Nat × List UInt8)) (x : Nat × List UInt8) : outL (pre ++ [x]) = outL pre ++ (qtL x.2 ++ [10]) := by simp [outL]
theorem quL_pre : ∀ (pre rest : List (Nat × List UInt8)) (out : List UInt8), (∀ y ∈ pre, (qtL y.2).length ≤ 998) → quL (pre ++ rest) out = quL rest (out ++ outL pre)
  | [], rest, out, _ => by simp [outL]
  | x :: r, rest, out, h => by
    have hx := h x (List.mem_cons_self ..)
    rw [List.cons_append, quL, if_neg (by omega), quL_pre r rest _ (fun y hy => h y (List.mem_cons_of_mem _ hy))]
    simp [outL]
theorem quL_all {L : List (Nat × List UInt8)} (h : ∀ y ∈ L, (qtL y.2).length ≤ 998) : quL L [] = some (outL L) := by
  have := quL_pre L [] [] h
  rw [List.append_nil] at this
  rw [this]
  rfl
theorem quL_fail {L pre : List (Nat × List UInt8)} {x : Nat × List UInt8} (hp : pre ++ [x] <+: L) (h : ∀ y ∈ pre, (qtL y.2).length ≤ 998) (hx : 998 < (qtL x.2).length) : quL L [] = none := by
  obtain ⟨t, rfl⟩ := hp
  rw [List.append_assoc, quL_pre pre _ _ h, List.singleton_append, quL, if_pos hx]
theorem outL_len : ∀ (pre : List (Nat × List UInt8)), (∀ y ∈ pre, (qtL y.2).length ≤ 998) → (outL pre).length ≤ pre.length * 999
  | [], _ => by simp [outL]
  | x :: r, h => by
    have hx := h x (List.mem_cons_self ..)
    have ih := outL_len r (fun y hy => h y (List.mem_cons_of_mem _ hy))
    have e : outL (x :: r) = (qtL x.2 ++ [10]) ++ outL r := by simp [outL]
    rw [e]
    simp only [List.length_append, List.length_cons, List.length_nil]
    omega
def QuPost (l : List UInt8) (w : World) (e : Ending) (w' : World) : Prop := e = .returned (.tuple #[strV (quS l).1, .int .i64 (quS l).2]) ∧ Below w.heap.size w w'

set_option maxRecDepth 100000 in
set_option maxHeartbeats 4000000 in
theorem quote_any (s : ByteArray) (hs : s.size ≤ 1000000) (w : World) : Calls Tryz.prog 23 #[.string s] w (QuPost s.data.toList w) := by
  refine (callsIn_wide (n := 4)).1 ?_
  refine callsIn_of_wp_marks Tryz.func23 rfl trivial ?_ rfl
  simp only [Tryz.ntmps23, List.size_toArray, List.length_cons, List.length_nil, Nat.reduceAdd, Nat.reduceSub, Array.replicate_succ, Array.replicate_zero, List.push_toArray, List.append_toArray, List.nil_append, List.cons_append]
  have CB := Lib.hid (checkBody_any s hs)
  have CR := Lib.hid (lines_any s)
  obtain ⟨⟨ca, cc⟩, hck⟩ : ∃ q, ckI s.data.toList = q := ⟨_, rfl⟩
  have HCK := Lib.hid hck
  have HR1 := Lib.hid (show ((w.alloc (.cells #[.string ⟨#[]⟩] 9)).alloc (.cells #[.int .i64 0] 23)).heap[w.heap.size]? = some (.cells #[.string ⟨#[]⟩] 9 (0, 0)) from (Below.heap_alloc _ _ _ (by simp)).trans (heap_alloc_new w _))
  have HR2 := Lib.hid (show ((w.alloc (.cells #[.string ⟨#[]⟩] 9)).alloc (.cells #[.int .i64 0] 23)).heap[w.heap.size + 1]? = some (.cells #[.int .i64 0] 23 (0, 0)) from by
    have := heap_alloc_new (w.alloc (.cells #[.string ⟨#[]⟩] 9)) (.cells #[.int .i64 0] 23)
    rw [World.size_alloc] at this
    exact this)
  have HB0 := Lib.hid (((Below.refl w.heap.size w).alloc (Nat.le_refl _) (.cells #[.string ⟨#[]⟩] 9)).alloc (by simp) (.cells #[.int .i64 0] 23))
  clear hck
  gi_wp2_with fail
  refine ⟨trivial, ?_⟩
  refine (callsIn_wide.2 (CB.out _)).mono ?_
  rintro e w1 ⟨rfl, hb1⟩
  rw [HCK.out]
  have hr1 := (hb1.block w.heap.size (by simp; omega)).trans HR1.out
  have hr2 := (hb1.block (w.heap.size + 1) (by simp)).trans HR2.out
  have HB1 := Lib.hid (HB0.out.trans (hb1.mono (by simp; omega)))
  have c1 := cell_of_one hr1
  have f1 := free_of_one hr1
  have c2 := cell_of_one hr2
  have f2 := free_of_one hr2
  have hlt1 := lt_of_block hr2
  have HR1 := Lib.hid hr1
  have HR2 := Lib.hid hr2
  clear hb1 hr1 hr2
  by_cases hcc : cc = 0
  · have hcb : (cc != 0) = false := by simp [hcc]
    gi_wp2_with fail
    refine ⟨trivial, ?_⟩
    refine (callsIn_wide.2 (CR.out _)).mono ?_
    rintro e w2 ⟨rfl, rfl⟩
    gi_wp2_with fail
    have HB2 := Lib.hid (((HB1.out.alloc HB1.out.size (.cells #[.pointer none, .slice none 0 0] 85)).alloc (by simp; have := HB1.out.size; omega) (.cells #[.func (.func 45) #[] #[.pointer (some ⟨w1.heap.size, 0, none⟩)]] 29)).alloc (by simp; have := HB1.out.size; omega) (.cells #[.string s] 9))
    have hk12 : Kept (fun _ => False) w1 (((w1.alloc (.cells #[.pointer none, .slice none 0 0] 85)).alloc (.cells #[.func (.func 45) #[] #[.pointer (some ⟨w1.heap.size, 0, none⟩)]] 29)).alloc (.cells #[.string s] 9)) := (((Kept.refl _ w1).alloc _).alloc _).alloc _
    have hq1 := hk12.heap HR1.out (fun f => f)
    have hq2 := hk12.heap HR2.out (fun f => f)
    have hlb : LB w.heap.size w1.heap.size [] none (((w1.alloc (.cells #[.pointer none, .slice none 0 0] 85)).alloc (.cells #[.func (.func 45) #[] #[.pointer (some ⟨w1.heap.size, 0, none⟩)]] 29)).alloc (.cells #[.string s] 9)) :=
      (LB.new w1 w.heap.size HB1.out.size).kept (F := fun _ => False) (((Kept.refl _ _).alloc _).alloc _) (fun f => f) (fun _ _ f => f)
    have hfc : (((w1.alloc (.cells #[.pointer none, .slice none 0 0] 85)).alloc (.cells #[.func (.func 45) #[] #[.pointer (some ⟨w1.heap.size, 0, none⟩)]] 29)).alloc (.cells #[.string s] 9)).heap[w1.heap.size + 1]? = some (.cells #[.func (.func 45) #[] #[.pointer (some ⟨w1.heap.size, 0, none⟩)]] 29 (0, 0)) := by
      have := heap_alloc_new (w1.alloc (.cells #[.pointer none, .slice none 0 0] 85)) (.cells #[.func (.func 45) #[] #[.pointer (some ⟨w1.heap.size, 0, none⟩)]] 29)
      rw [World.size_alloc] at this
      exact (Below.heap_alloc _ _ _ (by simp)).trans this
    have hs2 : (((w1.alloc (.cells #[.pointer none, .slice none 0 0] 85)).alloc (.cells #[.func (.func 45) #[] #[.pointer (some ⟨w1.heap.size, 0, none⟩)]] 29)).alloc (.cells #[.string s] 9)).heap[w1.heap.size + 1 + 1]? = some (.cells #[.string s] 9 (0, 0)) := by
      have := heap_alloc_new ((w1.alloc (.cells #[.pointer none, .slice none 0 0] 85)).alloc (.cells #[.func (.func 45) #[] #[.pointer (some ⟨w1.heap.size, 0, none⟩)]] 29)) (.cells #[.string s] 9)
      rw [World.size_alloc, World.size_alloc] at this
      exact this
    have hz2 : (((w1.alloc (.cells #[.pointer none, .slice none 0 0] 85)).alloc (.cells #[.func (.func 45) #[] #[.pointer (some ⟨w1.heap.size, 0, none⟩)]] 29)).alloc (.cells #[.string s] 9)).heap.size = w1.heap.size + 1 + 1 + 1 := by simp
    have hlen := lineI_len s.data.toList
    have hll : s.data.toList.length = s.size := by simp
    rw [hll] at hlen
    generalize ((w1.alloc (.cells #[.pointer none, .slice none 0 0] 85)).alloc (.cells #[.func (.func 45) #[] #[.pointer (some ⟨w1.heap.size, 0, none⟩)]] 29)).alloc (.cells #[.string s] 9) = w2 at *
    have hszw := HB1.out.size
    generalize w1.heap.size = N1 at *
    refine range_law rfl (by omega) (gf := 75) (lb := #[.pointer (some ⟨N1 + 1 + 1, 0, none⟩)]) rfl trivial (enters_of Tryz.func75 (by kernel_rfl) rfl)
      (lines_iter (N1 + 1 + 1) s hs _ (fun k => k = N1 + 1 + 1) rfl w2 hs2) (by omega) (fun k hk => by have hk' : k = N1 + 1 + 1 := hk; omega) (fun _ => rfl)
      (fun pre W => (∀ y ∈ pre, (qtL y.2).length ≤ 998) ∧ (∃ g, LB w.heap.size N1 (outL pre) g W ∧ g ≠ some (N1 + 1 + 1)) ∧ (W.heap[w.heap.size]? = some (.cells #[.string ⟨#[]⟩] 9 (0, 0)) ∧ W.heap[w.heap.size + 1]? = some (.cells #[.int .i64 0] 23 (0, 0)) ∧ W.heap[N1 + 1]? = some (.cells #[.func (.func 45) #[] #[.pointer (some ⟨N1, 0, none⟩)]] 29 (0, 0))) ∧ Below w.heap.size w W)
      (fun c pre W => c = .ret ∧ quL (lineI s.data.toList) [] = none ∧ (W.heap[w.heap.size]? = some (.cells #[.string ⟨#[]⟩] 9 (0, 0)) ∧ W.heap[w.heap.size + 1]? = some (.cells #[.int .i64 5] 23 (0, 0))) ∧ Below w.heap.size w W)
      ?hI ?hIx ⟨fun y hy => (by cases hy), ⟨none, hlb, by simp⟩, ⟨hq1, hq2, hfc⟩, HB2.out⟩
      (fun x => { tmps := #[.string s, undef, .pointer (some ⟨w.heap.size, 0, none⟩), .pointer (some ⟨w.heap.size + 1, 0, none⟩), .int .i64 ca, .int .i64 0, .pointer (some ⟨N1, 0, none⟩), .pointer (some ⟨N1 + 1, 0, none⟩), undef, .string (bsOf x.2), .tuple #[.int .i64 ca, .int .i64 0], .string s, .tuple #[.int .i64 ca, .int .i64 0], .int .i64 ca, .int .i64 0, .int .i64 0, .bool false, undef, .func (.func 45) #[] #[.pointer (some ⟨N1, 0, none⟩)], .string s, .func (.func 75) #[] #[.pointer (some ⟨N1 + 1 + 1, 0, none⟩)], .int .i64 x.1, .string (bsOf x.2), undef, undef, undef, undef, undef, undef, undef], defers := [] }) ?assign ?body ?done ?stop
    case hI =>
      rintro pre W W' ⟨h1, ⟨g, h2, hgb⟩, ⟨h3, h4, h5⟩, h6⟩ hk
      refine ⟨h1, ⟨g, h2.kept hk (by rintro (e | ⟨e, _⟩) <;> omega) (fun k hg f => ?_), hgb⟩, ⟨hk.heap h3 (by rintro (e | ⟨e, _⟩) <;> omega), hk.heap h4 (by rintro (e | ⟨e, _⟩) <;> omega), hk.heap h5 (by rintro (e | ⟨e, _⟩) <;> omega)⟩, h6.trans (hk.toBelow (by rintro k (e | ⟨e, _⟩) <;> omega) h6.size)⟩
      rcases f with e | ⟨_, o, ho, hc⟩
      · exact hgb (by rw [hg, e])
      · rw [h2.gcells k o hg ho] at hc; cases hc
    case hIx =>
      rintro c pre W W' ⟨h0, h1, ⟨h3, h4⟩, h6⟩ hk
      exact ⟨h0, h1, ⟨hk.heap h3 (by rintro (e | ⟨e, _⟩) <;> omega), hk.heap h4 (by rintro (e | ⟨e, _⟩) <;> omega)⟩, h6.trans (hk.toBelow (by rintro k (e | ⟨e, _⟩) <;> omega) h6.size)⟩
    case assign =>
      intro l x W K hK
      simp only [encN2]
      gi_wp2
      exact hK
    case body =>
      rintro l pre x W ⟨h1, ⟨g, h2, hgb⟩, ⟨h3, h4, h5⟩, h6⟩ hpre hsz
      have hpl : pre.length + 1 ≤ (lineI s.data.toList).length := by
        have := hpre.length_le
        simpa using this
      have hmem : x ∈ lineI s.data.toList := hpre.subset (List.mem_append.2 (.inr (List.mem_singleton.2 rfl)))
      have hxl := lineI_sum hmem
      rw [hll] at hxl
      have hol := outL_len pre h1
      have C1 := quote1_any h2 (bsOf x.2) (by rw [bsOf_size]; omega) (by omega)
      rw [bsOf_data] at C1
      have c5 := cell_of_one h5
      have CQ := Lib.hid C1
      have H1 := Lib.hid h1
      have H2 := Lib.hid h2
      have H3 := Lib.hid h3
      have H4 := Lib.hid h4
      have H5 := Lib.hid h5
      have H6 := Lib.hid h6
      have HP := Lib.hid hpre
      have HGB := Lib.hid hgb
      clear h1 h2 h3 h4 h5 h6 hpre hgb C1 hmem hll
      gi_wp2_with fail
      refine ⟨trivial, (CallsIn.inRound l (callsIn_wide.2 CQ.out)).mono ?_⟩
      rintro e w3 ⟨rfl, g', hlb', hk', hg'⟩
      have hglt := H2.out.glt
      have HF := Lib.hid (show ∀ k, k = N1 ∨ g = some k → ¬ k = N1 + 1 + 1 from fun k f e => by
        rcases f with f | f
        · omega
        · exact HGB.out (by rw [f, e]))
      have hne : ∀ {c : Nat} {cs : Array Value} {T : TypeId}, W.heap[c]? = some (.cells cs T (0, 0)) → T ≠ 85 → T ≠ 5 → ¬ (c = N1 ∨ g = some c) := fun hc h1 h2 => H2.out.apart hc h1 h2
      have hr3 := hk'.heap H3.out (hne H3.out (by decide) (by decide))
      have hr4 := hk'.heap H4.out (hne H4.out (by decide) (by decide))
      have hr5 := hk'.heap H5.out (hne H5.out (by decide) (by decide))
      have hbl3 := H6.out.trans (hk'.toBelow (fun k f => by
        rcases f with f | f
        · omega
        · exact (hglt k f).1) H6.out.size)
      have HELD := Lib.hid (Held.of (B := w2.heap.size) (Z := fun k => k = N1 + 1 + 1) hk' (fun k hk => ⟨by have hk2 : k = N1 + 1 + 1 := hk; omega, fun f => HF.out k f hk⟩) (fun k o f hB ho => by
        rcases f with f | f
        · omega
        · exact H2.out.gcells k o f ho))
      have hsz3 := hk'.size
      have HNG : Hid (g' ≠ some (N1 + 1 + 1)) := Lib.hid (fun e => by
        rcases hg' with f | f
        · exact HGB.out (by rw [← f, e])
        · have := f _ e; omega)
      have c3 := cell_of_one hr3
      have f3 := free_of_one hr3
      have c4 := cell_of_one hr4
      have f4 := free_of_one hr4
      have HR3 := Lib.hid hr3
      have HR4 := Lib.hid hr4
      have HR5 := Lib.hid hr5
      have HB3 := Lib.hid hbl3
      have HLB := Lib.hid hlb'
      have hl3 := lt_of_block hr4
      clear hlb' hk' hg' hglt hne hr3 hr4 hr5 hbl3 c5
      by_cases hq : (qtL x.2).length ≤ 998
      · have HQ := Lib.hid hq
        have hqb : decide ((qtL x.2).length ≤ 998) = true := decide_eq_true hq
        rw [hqb]
        clear hq hqb
        gi_wp2
        refine ⟨HELD.out, ?_, ⟨g', by rw [outL_snoc]; exact HLB.out, HNG.out⟩, ⟨HR3.out, HR4.out, HR5.out⟩, HB3.out⟩
        intro y hy
        rcases List.mem_append.1 hy with hy | hy
        · exact H1.out y hy
        · rw [List.mem_singleton.1 hy]; exact HQ.out
      · have HQ := Lib.hid (quL_fail HP.out H1.out (by omega))
        have hqb : decide ((qtL x.2).length ≤ 998) = false := decide_eq_false hq
        rw [hqb]
        clear hq hqb
        gi_wp2
        have hkS : Kept (fun k => k = w.heap.size ∨ k = w.heap.size + 1) w3 ((w3.setCell ⟨w.heap.size, 0, none⟩ (.string ⟨#[]⟩)).setCell ⟨w.heap.size + 1, 0, none⟩ (.int .i64 5)) := ((Kept.refl (fun k => k = w.heap.size ∨ k = w.heap.size + 1) w3).setCell (p := ⟨w.heap.size, 0, none⟩) (fun _ => .inl rfl) _).setCell (p := ⟨w.heap.size + 1, 0, none⟩) (fun _ => .inr rfl) _
        refine ⟨HELD.out.trans (Held.of hkS (fun k hk => ⟨by have hk2 : k = N1 + 1 + 1 := hk; omega, fun f => by have hk2 : k = N1 + 1 + 1 := hk; omega⟩) (fun k o f hB _ => by omega)), rfl, HQ.out, ⟨(Below.heap_setCell _ _ _ _ (by show w.heap.size ≠ w.heap.size + 1; omega)).trans (one_setCell HR3.out), one_setCell ((Below.heap_setCell _ _ _ _ (by show w.heap.size + 1 ≠ w.heap.size; omega)).trans HR4.out)⟩, ?_⟩
        exact (HB3.out.setCell (p := ⟨w.heap.size, 0, none⟩) (Nat.le_refl _) _).setCell (p := ⟨w.heap.size + 1, 0, none⟩) (by show w.heap.size ≤ w.heap.size + 1; omega) _
    case done =>
      rintro D W hD ⟨h1, ⟨g, h2, hgb⟩, ⟨h3, h4, h5⟩, h6⟩ hK
      have HQ := Lib.hid (quL_all h1)
      have CL := Lib.hid (lb_Len h2)
      have CS := Lib.hid (lb_String h2)
      obtain ⟨n, hn⟩ : ∃ n, (outL (lineI s.data.toList)).length = n := ⟨_, rfl⟩
      have hol := outL_len _ h1
      have hglt := h2.glt
      have hDg : ∀ k, g = some k → k ≠ D := fun k e f => by
        have := h2.gcells k _ e (by rw [f]; exact hK)
        cases this
      have hap3 := h2.apart h3 (by decide) (by decide)
      have hap4 := h2.apart h4 (by decide) (by decide)
      have c3 := cell_of_one h3
      have f3 := free_of_one h3
      have c4 := cell_of_one h4
      have f4 := free_of_one h4
      have hlt4 := lt_of_block h4
      have hltD := (Array.getElem?_eq_some_iff.1 hK).1
      have HN := Lib.hid hn
      have H2 := Lib.hid h2
      have H3 := Lib.hid h3
      have H4 := Lib.hid h4
      have H6 := Lib.hid h6
      have HKD := Lib.hid hK
      have HDG := Lib.hid hDg
      have HA3 := Lib.hid hap3
      have HA4 := Lib.hid hap4
      have HGL := Lib.hid hglt
      have HCC := Lib.hid hcc
      rw [hn] at CL hol
      clear h1 h2 h3 h4 h5 h6 hK hn hgb hap3 hap4 hglt hcc hDg
      gi_wp2_with fail
      refine ⟨trivial, ?_⟩
      refine (callsIn_wide.2 CL.out).mono ?_
      rintro e w' ⟨rfl, rfl⟩
      have hnb : n ≤ 10000000000 := by omega
      by_cases hb : 65536 < n
      · have HE : Hid (quS s.data.toList = ([], 5)) := Lib.hid (by unfold quS; rw [HCK.out, if_neg (by rw [HCC.out]; exact fun f => f rfl), HQ.out]; simp only; rw [HN.out, if_pos hb])
        gi_wp2
        have hK' : ((W.setCell ⟨w.heap.size, 0, none⟩ (.string ⟨#[]⟩)).setCell ⟨w.heap.size + 1, 0, none⟩ (.int .i64 5)).heap[D]? = some (.deferred (some [])) := (Below.heap_setCell _ _ _ _ (by show D ≠ w.heap.size + 1; omega)).trans ((Below.heap_setCell _ _ _ _ (by show D ≠ w.heap.size; omega)).trans HKD.out)
        refine ⟨by simp, .inl ⟨_, _, rfl, run_takeDeferred hK', ?_⟩⟩
        have d1 : (((W.setCell ⟨w.heap.size, 0, none⟩ (.string ⟨#[]⟩)).setCell ⟨w.heap.size + 1, 0, none⟩ (.int .i64 5)).putObj D (.deferred none)).cell? ⟨w.heap.size, 0, none⟩ = some (.string ⟨#[]⟩) := cell_of_one ((World.putObj_heap_other (by omega)).trans ((Below.heap_setCell _ _ _ _ (by show w.heap.size ≠ w.heap.size + 1; omega)).trans (one_setCell H3.out)))
        have d2 : (((W.setCell ⟨w.heap.size, 0, none⟩ (.string ⟨#[]⟩)).setCell ⟨w.heap.size + 1, 0, none⟩ (.int .i64 5)).putObj D (.deferred none)).cell? ⟨w.heap.size + 1, 0, none⟩ = some (.int .i64 5) := cell_of_one ((World.putObj_heap_other (by omega)).trans (one_setCell ((Below.heap_setCell _ _ _ _ (by show w.heap.size + 1 ≠ w.heap.size; omega)).trans H4.out)))
        have hb5 := (H6.out.setCell (p := ⟨w.heap.size, 0, none⟩) (Nat.le_refl _) (.string ⟨#[]⟩)).setCell (p := ⟨w.heap.size + 1, 0, none⟩) (by show w.heap.size ≤ w.heap.size + 1; omega) (.int .i64 5)
        exact ⟨.tuple #[.string ⟨#[]⟩, .int .i64 5], by simp [results, Tryz.f23, go_sem, d1, d2], by rw [HE.out]; rfl, hb5.trans ((kept_put _ D _).toBelow (fun k e => by have e' : k = D := e; omega) hb5.size)⟩
      · have HE : Hid (quS s.data.toList = (outL (lineI s.data.toList), 0)) := Lib.hid (by unfold quS; rw [HCK.out, if_neg (by rw [HCC.out]; exact fun f => f rfl), HQ.out]; simp only; rw [HN.out, if_neg hb])
        gi_wp2_with fail
        refine ⟨trivial, ?_⟩
        refine (callsIn_wide.2 CS.out).mono ?_
        rintro e w5 ⟨rfl, _, hk5⟩
        have hr3 := hk5.heap H3.out (fun f => HA3.out (.inr f))
        have hr4 := hk5.heap H4.out (fun f => HA4.out (.inr f))
        have hkd := hk5.heap HKD.out (fun f => HDG.out D f rfl)
        have hb6 := H6.out.trans (hk5.toBelow (fun k f => (HGL.out k f).1) H6.out.size)
        have c5 := cell_of_one hr3
        have g5 := free_of_one hr3
        have c6 := cell_of_one hr4
        have g6 := free_of_one hr4
        have HR3 := Lib.hid hr3
        have HR4 := Lib.hid hr4
        have HKD5 := Lib.hid hkd
        have HB6 := Lib.hid hb6
        clear hk5 hr3 hr4 hkd hb6
        simp only [strV]
        gi_wp2
        have hK' : ((w5.setCell ⟨w.heap.size, 0, none⟩ (.string (bsOf (outL (lineI s.data.toList))))).setCell ⟨w.heap.size + 1, 0, none⟩ (.int .i64 0)).heap[D]? = some (.deferred (some [])) := (Below.heap_setCell _ _ _ _ (by show D ≠ w.heap.size + 1; omega)).trans ((Below.heap_setCell _ _ _ _ (by show D ≠ w.heap.size; omega)).trans HKD5.out)
        refine ⟨by simp, .inl ⟨_, _, rfl, run_takeDeferred hK', ?_⟩⟩
        have d1 : (((w5.setCell ⟨w.heap.size, 0, none⟩ (.string (bsOf (outL (lineI s.data.toList))))).setCell ⟨w.heap.size + 1, 0, none⟩ (.int .i64 0)).putObj D (.deferred none)).cell? ⟨w.heap.size, 0, none⟩ = some (.string (bsOf (outL (lineI s.data.toList)))) := cell_of_one ((World.putObj_heap_other (by omega)).trans ((Below.heap_setCell _ _ _ _ (by show w.heap.size ≠ w.heap.size + 1; omega)).trans (one_setCell HR3.out)))
        have d2 : (((w5.setCell ⟨w.heap.size, 0, none⟩ (.string (bsOf (outL (lineI s.data.toList))))).setCell ⟨w.heap.size + 1, 0, none⟩ (.int .i64 0)).putObj D (.deferred none)).cell? ⟨w.heap.size + 1, 0, none⟩ = some (.int .i64 0) := cell_of_one ((World.putObj_heap_other (by omega)).trans (one_setCell ((Below.heap_setCell _ _ _ _ (by show w.heap.size + 1 ≠ w.heap.size; omega)).trans HR4.out)))
        have hb5 := (HB6.out.setCell (p := ⟨w.heap.size, 0, none⟩) (Nat.le_refl _) (.string (bsOf (outL (lineI s.data.toList))))).setCell (p := ⟨w.heap.size + 1, 0, none⟩) (by show w.heap.size ≤ w.heap.size + 1; omega) (.int .i64 0)
        exact ⟨.tuple #[.string (bsOf (outL (lineI s.data.toList))), .int .i64 0], by simp [results, Tryz.f23, go_sem, d1, d2], by rw [HE.out]; rfl, hb5.trans ((kept_put _ D _).toBelow (fun k e => by have e' : k = D := e; omega) hb5.size)⟩
    case stop =>
      rintro D c pre W hD hpre ⟨rfl, h1, ⟨h3, h4⟩, h6⟩ hK
      gi_wp2
      refine ⟨by simp, .inl ⟨_, _, rfl, run_takeDeferred hK, ?_⟩⟩
      have d1 : (W.putObj D (.deferred none)).cell? ⟨w.heap.size, 0, none⟩ = some (.string ⟨#[]⟩) := cell_of_one ((World.putObj_heap_other (by omega)).trans h3)
      have d2 : (W.putObj D (.deferred none)).cell? ⟨w.heap.size + 1, 0, none⟩ = some (.int .i64 5) := cell_of_one ((World.putObj_heap_other (by omega)).trans h4)
      have HE : quS s.data.toList = ([], 5) := by unfold quS; rw [HCK.out, if_neg (by rw [hcc]; exact fun f => f rfl), h1]
      exact ⟨.tuple #[.string ⟨#[]⟩, .int .i64 5], by simp [results, Tryz.f23, go_sem, d1, d2], by rw [HE]; rfl, h6.trans ((kept_put _ D _).toBelow (fun k e => by have e' : k = D := e; omega) h6.size)⟩
  · have hcb : (cc != 0) = true := by simp [hcc]
    have HE : Hid (quS s.data.toList = ([], cc)) := Lib.hid (by unfold quS; rw [HCK.out, if_pos hcc])
    clear hcc
    gi_wp2
    have d1 : ((w1.setCell ⟨w.heap.size, 0, none⟩ (.string ⟨#[]⟩)).setCell ⟨w.heap.size + 1, 0, none⟩ (.int .i64 cc)).cell? ⟨w.heap.size, 0, none⟩ = some (.string ⟨#[]⟩) := cell_of_one ((Below.heap_setCell _ _ _ _ (by show w.heap.size ≠ w.heap.size + 1; omega)).trans (one_setCell HR1.out))
    have d2 : ((w1.setCell ⟨w.heap.size, 0, none⟩ (.string ⟨#[]⟩)).setCell ⟨w.heap.size + 1, 0, none⟩ (.int .i64 cc)).cell? ⟨w.heap.size + 1, 0, none⟩ = some (.int .i64 cc) := cell_of_one (one_setCell ((Below.heap_setCell _ _ _ _ (by show w.heap.size + 1 ≠ w.heap.size; omega)).trans HR2.out))
    exact ⟨.tuple #[.string ⟨#[]⟩, .int .i64 cc], by simp [results, Tryz.f23, go_sem, d1, d2], by rw [HE.out]; rfl, (HB1.out.setCell (p := ⟨w.heap.size, 0, none⟩) (Nat.le_refl _) _).setCell (p := ⟨w.heap.size + 1, 0, none⟩) (by show w.heap.size ≤ w.heap.size + 1; omega) _⟩
end Go.Proofs.YteecmcphbehfgaaGreatDoor
