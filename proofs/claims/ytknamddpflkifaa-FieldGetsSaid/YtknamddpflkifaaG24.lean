/- Slices of strings; Unknown by the program and by the document, over this translation.
   Conditions: names and bodies of fields of at most 1000000 bytes. -/
import Derived.Test.YtknamddpflkifaaG22
import Derived.Test.YtknamddpflkifaaG10
namespace Go.Proofs.Ytknamddpflkifaa
open Go.ChangeShapes Go.WideShapes Go.ChangeAt Go.RowKit Go.Lib

/-- A slice of strings that reads as ss. -/
structure StrsAt (A : Option Addr) (ss : List (List UInt8)) (w : World) : Prop where
  at_ : 0 < ss.length → ∃ ad, A = some ad ∧ ad.block < w.heap.size
  cell : ∀ k ad (h : k < ss.length), A = some ad → w.cell? (ad.add k) = some (strV ss[k])
  small : ∀ s ∈ ss, s.length ≤ 9223372036854775807
theorem StrsAt.kept {F : Nat → Prop} {A : Option Addr} {ss : List (List UInt8)} {w w' : World} (h : StrsAt A ss w) (hk : Kept F w w') (hF : ∀ ad, A = some ad → ¬ F ad.block) : StrsAt A ss w' := by
  refine ⟨fun hl => ?_, fun k ad hk' ha => ?_, h.small⟩
  · obtain ⟨ad, ha, hb⟩ := h.at_ hl
    exact ⟨ad, ha, Nat.lt_of_lt_of_le hb hk.size⟩
  · obtain ⟨ad', ha', hb⟩ := h.at_ (by omega)
    rw [ha] at ha'
    injection ha' with ha'
    subst ha'
    exact (hk.cell (p := ad.add k) (by rw [addr_block]; exact hb) (by rw [addr_block]; exact hF _ ha)).trans (h.cell k ad hk' ha)
theorem StrsAt.below {A : Option Addr} {ss : List (List UInt8)} {w w' : World} (h : StrsAt A ss w) (hb : Below w.heap.size w w') : StrsAt A ss w' := h.kept (kept_of_below hb) (fun _ _ f => f)
theorem StrsAt.nil {A : Option Addr} {w : World} : StrsAt A [] w := ⟨fun h => absurd h (by decide), fun k _ h => absurd h (by simp), fun f hf => by cases hf⟩
theorem StrsAt.take {A : Option Addr} {ss : List (List UInt8)} {w : World} (h : StrsAt A ss w) (n : Nat) : StrsAt A (ss.take n) w :=
  ⟨fun hl => h.at_ (by rw [List.length_take] at hl; omega), fun k ad hk ha => by rw [List.getElem_take]; exact h.cell k ad (by rw [List.length_take] at hk; omega) ha, fun s hs => h.small s (List.mem_of_mem_take hs)⟩
theorem StrsAt.of_own {B cap : Nat} {A : Option Addr} {ss : List (List UInt8)} {w : World} (h : w.ownsRow B 9 1 (.slice A ss.length cap) ss.length (ss.map strV)) (hs : ∀ s ∈ ss, s.length ≤ 9223372036854775807) : StrsAt A ss w := by
  by_cases hn : 0 < ss.length
  · obtain ⟨g, cap', he, _, hg, _, hc⟩ := own_cell h hn
    injection he with he1 _ _
    subst he1
    refine ⟨fun _ => ⟨_, rfl, hg⟩, fun k ad hk ha => ?_, hs⟩
    injection ha with ha
    subst ha
    rw [add0]
    exact hc k _ (by rw [List.getElem?_map, List.getElem?_eq_getElem hk]; rfl)
  · have : ss = [] := List.eq_nil_of_length_eq_zero (by omega)
    subst this
    exact StrsAt.nil

section
variable {H : Type} {enc : TypeId × Value → H} {w : World} {base : Nat} {spare : Nat → Bool} {held : Bool}
theorem open_strs {fuel : Nat} {cs : List Value} {x : DataW H × List MemPlace} (h : DataW.trod enc Try.prog w base spare held fuel 36 cs = some x)
    (hs : ∀ n ∈ x.1.weights Try.prog 36, n ≤ reachBytes) :
    ∃ (A : Option Addr) (ss : List (List UInt8)) (cap : Nat), cs = [.slice A ss.length cap] ∧ ss.length ≤ cap ∧ cap ≤ 9223372036854775807 ∧ StrsAt A ss w := by
  have hc : Try.prog.cellsOf 9 = 1 := by kernel_rfl
  rcases Deep.open_slice1 Try.underlying36 hc h with ⟨rfl, rfl⟩ | ⟨a, len, cap, m, n, V, D, Pl, rfl, hb, hl, hm, hmm, rfl, hx⟩
  · exact ⟨none, [], 0, rfl, by simp, by omega, StrsAt.nil⟩
  have hlm : len ≤ m := by rw [hmm]; split <;> omega
  have key : ∀ i, i < len → ∃ e : List UInt8, w.cell? (a.add i) = some (strV e) ∧ e.length ≤ 140737488355328 := by
    intro i hi
    obtain ⟨hcell, htr⟩ := hx i (by omega)
    obtain ⟨s, e0, r0, w0⟩ := DataW.trod_string Try.underlying9 htr
    have e1 : V i = .string s := by simpa using e0
    refine ⟨s.data.toList, by rw [hcell, e1]; unfold strV; rw [bsOf_eta], ?_⟩
    have hd : D i = .lit (.string s.data.toList) := congrArg Prod.fst r0
    have hw : s.data.toList.length ∈ (D i).weights Try.prog 9 := by
      rw [hd]
      unfold DataW.weights
      exact List.mem_singleton.2 rfl
    have h2 : s.data.toList.length ≤ reachBytes := hs _ (by
      show _ ∈ DataW.weights _ _ (DataW.slice _ _)
      unfold DataW.weights
      rw [Try.underlying36]
      exact List.mem_cons_of_mem _ (List.mem_append.2 (Or.inl (weightsAll_mem (List.mem_map.2 ⟨i, List.mem_range.2 hi, rfl⟩) _ hw))))
    have h3 := reachBytes_lt
    omega
  have inh : Inhabited (List UInt8) := ⟨[]⟩
  obtain ⟨E, hE⟩ := Deep.choose_lt key
  have hlen : ((List.range len).map E).length = len := by simp
  refine ⟨some a, (List.range len).map E, cap, by rw [hlen], by rw [hlen]; exact hl, ?_, ⟨fun h => ⟨a, rfl, ?_⟩, fun k ad hk ha => ?_, fun f hf => ?_⟩⟩
  · have : maxLen ≤ 9223372036854775807 := by decide
    omega
  · rw [hlen] at h
    have := World.block_lt_of_cell? w _ (hE 0 h).1
    rw [addr_block] at this
    exact this
  · injection ha with ha
    subst ha
    rw [hlen] at hk
    rw [List.getElem_map, List.getElem_range]
    exact (hE k hk).1
  · obtain ⟨i, hi, rfl⟩ := List.mem_map.1 hf
    have := (hE i (List.mem_range.1 hi)).2
    omega
theorem strs_arg {r : Reach} {b0 : Nat} {v : Value} {d : DataW H} {ps : List MemPlace} (hval : Value.okWide Try.prog w r b0 36 v)
    (h : DataW.Trod enc Try.prog w base spare held 36 v d ps) (hs : ∀ n ∈ d.weights Try.prog 36, n ≤ reachBytes) :
    ∃ (A : Option Addr) (ss : List (List UInt8)) (cap : Nat), v = .slice A ss.length cap ∧ ss.length ≤ cap ∧ cap ≤ 9223372036854775807 ∧ StrsAt A ss w := by
  obtain ⟨a0, l0, c0, rfl⟩ := okWide_slice Try.underlying36 hval
  obtain ⟨fuel, hf⟩ := h
  obtain ⟨A, ss, cap, he, hl, hc, hC⟩ := open_strs hf hs
  refine ⟨A, ss, cap, ?_, hl, hc, hC⟩
  simp only [Value.cells, List.cons.injEq, and_true] at he
  exact he
end

/-- A function value that tests strings. -/
def PredS (g : Nat) (lb : Array Value) (p : List UInt8 → Bool) (w : World) : Prop :=
  ∀ (W : World), Below w.heap.size w W → ∀ s : ByteArray, s.size ≤ 9223372036854775807 → Calls Try.prog g (#[.string s] ++ lb) W fun e w' => e = .returned (.bool (p s.data.toList)) ∧ Below W.heap.size W w'

set_option maxRecDepth 10000 in
set_option maxHeartbeats 1000000 in
theorem some_any {A : Option Addr} {cap g : Nat} {lb : Array Value} {p : List UInt8 → Bool} {ss : List (List UInt8)} {w : World} (h : StrsAt A ss w) (hn : ss.length ≤ 1000000)
    (hp : PredS g lb p w) (eg : ∀ (args : Array Value) (w : World), (callFunc g args).run Try.prog w = .ok (.enter g args) w) :
    Calls Try.prog 49 #[.slice A ss.length cap, .func (.func g) #[] lb] w fun e w' => e = .returned (.bool (ss.any p)) ∧ Below w.heap.size w w' := by
  have H := Lib.hid h
  have HP := Lib.hid hp
  obtain ⟨nf, hnf⟩ : ∃ nf, ss.length = nf := ⟨_, rfl⟩
  have HNF := Lib.hid hnf
  rw [hnf] at hn ⊢
  clear h hp hnf
  go_enter Try.func49, Try.ntmps49
  go_wp2
  go_loopw [6, 9] (fun _ v wr => ∃ k : Nat, k ≤ nf ∧ v = .int .i64 k ∧ (ss.take k).any p = false ∧ Below w.heap.size w wr) (fun _ v _ => nf - (RowKit.intOf v).toNat)
  case atStart => exact ⟨0, Nat.zero_le _, rfl, rfl, Below.refl _ _⟩
  case round =>
    obtain ⟨k, hk, rfl, hf, hbl⟩ := hrel
    have HF := Lib.hid hf
    have HBL := Lib.hid hbl
    clear hf hbl
    by_cases hlt : k < nf
    · have hk' : k < ss.length := by rw [HNF.out]; exact hlt
      obtain ⟨ad, rfl, hb0⟩ := H.out.at_ (by omega)
      have c0 := (H.out.kept (kept_of_below HBL.out) (fun _ _ f => f)).cell k ad hk' rfl
      have z1 := H.out.small ss[k] (List.getElem_mem hk')
      have hts : Hid (ss.take (k + 1) = ss.take k ++ [ss[k]]) := Lib.hid (List.take_succ_eq_append_getElem hk')
      have hmem : Hid (ss[k] ∈ ss) := Lib.hid (List.getElem_mem hk')
      obtain ⟨s, hs⟩ : ∃ q, ss[k] = q := ⟨_, rfl⟩
      rw [hs] at c0 z1 hts hmem
      have CP := HP.out wr HBL.out (bsOf s) (by rw [bsOf_size]; exact z1)
      rw [bsOf_data] at CP
      unfold strV at c0
      clear z1 hs
      have i1 : (0 : Int) ≤ (k : Int) := Int.natCast_nonneg _
      cases hpp : p s
      · have hfil : Hid ((ss.take (k + 1)).any p = false) := Lib.hid (by rw [hts.out, List.any_append, HF.out]; simp [hpp])
        rw [hpp] at CP
        have CP := Lib.hid CP
        clear hpp
        go_wp2_with fail
        refine CP.out.mono ?_
        rintro e w1 ⟨rfl, hb1⟩
        have HB1 := Lib.hid (HBL.out.trans (hb1.mono HBL.out.size))
        clear hb1
        go_wp2
        go_roundw
        case rel => exact ⟨k + 1, by omega, by go_num, hfil.out, HB1.out⟩
        case measure => simp [RowKit.intOf]; omega
      · have hall : Hid (ss.any p = true) := Lib.hid (List.any_eq_true.2 ⟨s, hmem.out, hpp⟩)
        rw [hpp] at CP
        have CP := Lib.hid CP
        clear hpp
        go_wp2_with fail
        refine CP.out.mono ?_
        rintro e w1 ⟨rfl, hb1⟩
        have HB1 := Lib.hid (HBL.out.trans (hb1.mono HBL.out.size))
        clear hb1
        go_wp2
        go_ret
        exact ⟨by rw [hall.out]; rfl, HB1.out⟩
    · obtain rfl : k = nf := by omega
      have hall : Hid (ss.any p = false) := Lib.hid (by
        have := HF.out
        rwa [List.take_of_length_le (by rw [HNF.out]; exact Nat.le_refl _)] at this)
      go_wp2
      go_ret
      exact ⟨by rw [hall.out]; rfl, HBL.out⟩

/-! ### Unknown -/
theorem callF_unk (args : Array Value) (w : World) : (callFunc 62 args).run Try.prog w = .ok (.enter 62 args) w := enters_of Try.func62 (by kernel_rfl) rfl args w
theorem callF_unk1 (args : Array Value) (w : World) : (callFunc 63 args).run Try.prog w = .ok (.enter 63 args) w := enters_of Try.func63 (by kernel_rfl) rfl args w
set_option maxHeartbeats 1000000 in
theorem unk1_any (b : Nat) (s : ByteArray) (fn fb : List UInt8) (W : World) (hc : W.cell? ⟨b, 0, none⟩ = some (strV fn)) (h1 : fn.length ≤ 1000000) (hn : s.size ≤ 9223372036854775807) :
    Calls Try.prog 63 #[.string s, .pointer (some ⟨b, 0, none⟩)] W fun e w' => e = .returned (.bool (sameB s.data.toList fn)) ∧ Below W.heap.size W w' := by
  have CE := fun w => equalFold_any s (bsOf fn) w hn (by rw [bsOf_size]; omega)
  rw [bsOf_data] at CE
  have HCE := Lib.hid CE
  have hb := World.block_lt_of_cell? W _ hc
  clear CE
  unfold strV at hc
  go_enter Try.func63, Try.ntmps63
  go_wp2_with fail
  refine (HCE.out _).mono ?_
  rintro e w1 ⟨rfl, hb1⟩
  have HB1 := Lib.hid hb1
  clear hb1
  go_wp2
  go_ret
  exact ⟨rfl, HB1.out⟩
theorem pred_unk1 {b : Nat} {fn : List UInt8} {w : World} (hc : w.cell? ⟨b, 0, none⟩ = some (strV fn)) (h1 : fn.length ≤ 1000000) :
    PredS 63 #[.pointer (some ⟨b, 0, none⟩)] (fun s => sameB s fn) w := by
  intro W hW s hs
  exact unk1_any b s fn [] W (((bcell hW).1 _ _ (World.block_lt_of_cell? w _ hc)).trans hc) h1 hs
def listedB (ss : List (List UInt8)) (f : List UInt8 × List UInt8) : Bool := ss.any fun s => sameB s f.1
set_option maxHeartbeats 1000000 in
theorem unk_any {A : Option Addr} {cap : Nat} {ss : List (List UInt8)} (c : Nat) (fn fb : List UInt8) (W : World) (h : StrsAt A ss W) (hn : ss.length ≤ 1000000) (hc : W.cell? ⟨c, 0, none⟩ = some (.slice A ss.length cap)) (h1 : fn.length ≤ 1000000) :
    Calls Try.prog 62 #[.agg #[strV fn, strV fb], .pointer (some ⟨c, 0, none⟩)] W fun e w' => e = .returned (.bool (!listedB ss (fn, fb))) ∧ Below W.heap.size W w' := by
  have hb := World.block_lt_of_cell? W _ hc
  have hA : Below W.heap.size W (W.alloc (.cells #[strV fn, strV fb] 28)) := (Below.refl _ _).alloc (Nat.le_refl _) _
  have CS := Lib.hid (some_any (cap := cap) (h.below hA) hn (pred_unk1 (b := W.heap.size) (fn := fn) cell2.1 h1) callF_unk1)
  have HA := Lib.hid hA
  have HLB : Hid (ss.any (fun s => sameB s fn) = listedB ss (fn, fb)) := Lib.hid rfl
  obtain ⟨nf, hnf⟩ : ∃ nf, ss.length = nf := ⟨_, rfl⟩
  rw [hnf] at hc CS
  rw [HLB.out] at CS
  clear h hn hA hnf
  unfold strV at CS HA ⊢
  go_enter Try.func62, Try.ntmps62
  go_wp2_with fail
  refine CS.out.mono ?_
  rintro e w1 ⟨rfl, hb1⟩
  have HB1 := Lib.hid (HA.out.trans (hb1.mono HA.out.size))
  clear hb1
  go_wp2
  go_ret
  exact ⟨rfl, HB1.out⟩
theorem pred_unk {A : Option Addr} {cap c : Nat} {ss : List (List UInt8)} {w : World} (h : StrsAt A ss w) (hn : ss.length ≤ 1000000) (hc : w.cell? ⟨c, 0, none⟩ = some (.slice A ss.length cap)) :
    PredIn 62 #[.pointer (some ⟨c, 0, none⟩)] (fun f => !listedB ss f) w := by
  intro W hW fn fb h1 _
  exact unk_any c fn fb W (h.below hW) hn (((bcell hW).1 _ _ (World.block_lt_of_cell? w _ hc)).trans hc) h1
/-- The fields whose names are not listed. -/
def unknownF (ss : List (List UInt8)) (fs : List (List UInt8 × List UInt8)) : List (List UInt8 × List UInt8) := fs.filter fun f => !listedB ss f
set_option maxHeartbeats 1000000 in
theorem unknown_any {A B : Option Addr} {cap cb : Nat} {fs : List (List UInt8 × List UInt8)} {ss : List (List UInt8)} {w : World} (h : FldsAt A fs w) (hz : ∀ f ∈ fs, f.1.length ≤ 1000000 ∧ f.2.length ≤ 1000000) (hn : fs.length ≤ 1000000) (hs : StrsAt B ss w) (hm : ss.length ≤ 1000000) :
    Calls Try.prog 35 #[.slice A fs.length cap, .slice B ss.length cb] w (RowPost 28 (unknownF ss fs) w) := by
  have HB0 := Lib.hid ((Below.refl w.heap.size w).alloc (Nat.le_refl _) (.cells #[.slice B ss.length cb] 36))
  have b0 : (w.alloc (.cells #[.slice B ss.length cb] 36)).heap[w.heap.size]? = some (.cells #[.slice B ss.length cb] 36 (0, 0)) := heap_new_at rfl _
  have CS := Lib.hid (((selected_any (cap := cap) (h.below HB0.out) hz hn (pred_unk (hs.below HB0.out) hm (one_cell b0)) callF_unk).mono fun e w' h => RowPost.base h HB0.out))
  have HU : Hid (fs.filter (fun f => !listedB ss f) = unknownF ss fs) := Lib.hid rfl
  rw [HU.out] at CS
  obtain ⟨nf, hnf⟩ : ∃ nf, fs.length = nf := ⟨_, rfl⟩
  obtain ⟨ns, hns⟩ : ∃ ns, ss.length = ns := ⟨_, rfl⟩
  rw [hnf, hns] at CS
  rw [hnf, hns]
  clear h hz hn hs hm b0 hnf hns HB0
  go_enter Try.func35, Try.ntmps35
  go_wp2_with fail
  refine CS.out.mono ?_
  rintro e w2 ⟨v, rfl, hown, hb⟩
  have HO := Lib.hid hown
  have HB := Lib.hid hb
  obtain ⟨A3, cap3, rfl⟩ := own_shape2 hown
  clear hown hb
  go_wp2
  go_ret
  exact ⟨_, rfl, HO.out, HB.out⟩

theorem unknown_fold (ss : List (List UInt8)) : ∀ (fs : List (List UInt8 × List UInt8)), ss.foldl (fun acc s => withoutF s acc) fs = unknownF ss fs := by
  induction ss with
  | nil => intro fs; exact (List.filter_eq_self.2 (fun f _ => by simp [listedB])).symm
  | cons s r ih =>
    intro fs
    rw [List.foldl_cons, ih]
    unfold unknownF withoutF listedB
    rw [List.filter_filter]
    congr 1
    funext f
    rw [List.any_cons, Bool.not_or]
    have : sameB f.1 s = sameB s f.1 := by
      unfold sameB
      by_cases h : lowL f.1 = lowL s
      · rw [decide_eq_true h, decide_eq_true h.symm]
      · rw [decide_eq_false h, decide_eq_false (fun e => h e.symm)]
    rw [this, Bool.and_comm]
set_option maxRecDepth 10000 in
set_option maxHeartbeats 1000000 in
theorem runknown_any {A B : Option Addr} {cap cb : Nat} {fs : List (List UInt8 × List UInt8)} {ss : List (List UInt8)} {w : World} (h : FldsAt A fs w) (hz : ∀ f ∈ fs, f.1.length ≤ 1000000 ∧ f.2.length ≤ 1000000) (hn : fs.length ≤ 1000000) (hs : StrsAt B ss w) (hm : ss.length ≤ 1000000) :
    Calls Try.prog 36 #[.slice A fs.length cap, .slice B ss.length cb] w fun e w' => ∃ A' cap', e = .returned (.slice A' (unknownF ss fs).length cap') ∧ FldsAt A' (unknownF ss fs) w' ∧ Below w.heap.size w w' := by
  have H := Lib.hid h
  have HZ := Lib.hid hz
  have HS := Lib.hid hs
  have HU := Lib.hid (unknown_fold ss fs)
  obtain ⟨nf, hnf⟩ : ∃ nf, fs.length = nf := ⟨_, rfl⟩
  obtain ⟨ns, hns⟩ : ∃ ns, ss.length = ns := ⟨_, rfl⟩
  have HNF := Lib.hid hnf
  have HNS := Lib.hid hns
  rw [hnf] at hn ⊢
  rw [hns] at hm ⊢
  clear h hz hs hnf hns
  go_enter Try.func36, Try.ntmps36
  go_wp2
  go_loopw [5, 6] (fun a v wr => ∃ (k : Nat) (gs : List (List UInt8 × List UInt8)) (A' : Option Addr) (cap' : Nat), k ≤ ns ∧ v = .int .i64 k ∧ gs = (ss.take k).foldl (fun acc s => withoutF s acc) fs ∧ a = .slice A' gs.length cap' ∧ FldsAt A' gs wr ∧ (∀ f ∈ gs, f.1.length ≤ 1000000 ∧ f.2.length ≤ 1000000) ∧ gs.length ≤ nf ∧ Below w.heap.size w wr) (fun _ v _ => ns - (RowKit.intOf v).toNat)
  case atStart => exact ⟨0, fs, A, cap, Nat.zero_le _, rfl, rfl, by rw [HNF.out], H.out, HZ.out, by rw [HNF.out]; exact Nat.le_refl _, Below.refl _ _⟩
  case round =>
    obtain ⟨k, gs, A', cap', hk, rfl, hgs, rfl, hf, hgz, hgl, hbl⟩ := hrel
    have HGS := Lib.hid hgs
    have HF := Lib.hid hf
    have HGZ := Lib.hid hgz
    have HBL := Lib.hid hbl
    obtain ⟨ng, hng⟩ : ∃ ng, gs.length = ng := ⟨_, rfl⟩
    have HNG := Lib.hid hng
    rw [hng] at hgl ⊢
    clear hgs hf hgz hbl hng
    by_cases hlt : k < ns
    · have hk' : k < ss.length := by rw [HNS.out]; exact hlt
      obtain ⟨ad, rfl, hb0⟩ := HS.out.at_ (by omega)
      have c0 := (HS.out.kept (kept_of_below HBL.out) (fun _ _ f => f)).cell k ad hk' rfl
      have z1 := HS.out.small ss[k] (List.getElem_mem hk')
      have hts : Hid (ss.take (k + 1) = ss.take k ++ [ss[k]]) := Lib.hid (List.take_succ_eq_append_getElem hk')
      obtain ⟨s, hs⟩ : ∃ q, ss[k] = q := ⟨_, rfl⟩
      rw [hs] at c0 z1 hts
      have CW := (rwithout_any (cap := cap') (bsOf s) HF.out HGZ.out (by rw [HNG.out]; omega) (by rw [bsOf_size]; exact z1)).mono fun e w' h => RowPost.at h (fun f hf => by have := filter_big HGZ.out f hf; omega)
      rw [bsOf_data] at CW
      unfold RowAt at CW
      rw [HNG.out] at CW
      have CW := Lib.hid CW
      unfold strV at c0
      clear z1 hs
      have i1 : (0 : Int) ≤ (k : Int) := Int.natCast_nonneg _
      go_wp2_with fail
      refine CW.out.mono ?_
      rintro e w1 ⟨A1, cap1, rfl, _, hf1, hb1⟩
      have HF1 := Lib.hid hf1
      have HB1 := Lib.hid (HBL.out.trans (hb1.mono HBL.out.size))
      clear hf1 hb1
      go_wp2
      go_roundw
      case rel =>
        refine ⟨k + 1, withoutF s gs, A1, cap1, by omega, by go_num, by rw [hts.out, List.foldl_append, ← HGS.out]; rfl, rfl, HF1.out, filter_big HGZ.out, ?_, HB1.out⟩
        have := List.length_filter_le (fun f : List UInt8 × List UInt8 => !sameB f.1 s) gs
        unfold withoutF
        have h3 := HNG.out
        omega
      case measure => simp [RowKit.intOf]; omega
    · obtain rfl : k = ns := by omega
      have hE : gs = unknownF ss fs := by
        rw [HGS.out, List.take_of_length_le (by rw [HNS.out]; exact Nat.le_refl _)]
        exact HU.out
      have HE := Lib.hid hE
      clear hE
      go_wp2
      go_ret
      exact ⟨A', cap', by rw [← HE.out, HNG.out]; rfl, by rw [← HE.out]; exact HF.out, HBL.out⟩
end Go.Proofs.Ytknamddpflkifaa
