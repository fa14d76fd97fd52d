/- route: slices.AppendSeq, Collect, SortedFunc; List. -/
import Derived.Test.YtapiaaffnhmmiaaRt5
import Derived.Test.YtapiaaffnhmmiaaSortK
import Derived.Test.YtapiaaffnhmmiaaRtLay
import Derived.Shelf.SlSortCmp.NoneTotal
namespace Go.Proofs.Ytapiaaffnhmmiaa
open Go.RowKit Go.Shelf
set_option linter.unusedVariables false
set_option linter.unusedSimpArgs false
attribute [local go_sem] Oper.semAt_some

theorem info_route : (Try.prog.info? 33).map (fun i => (i.zero, i.size, i.bytes)) = some (some (.agg #[.int .u32 0, .int .i64 0, .int .u32 0, .int .i64 0]), 4, 32) := by kernel_rfl
theorem cellsAt {w : World} {b : Nat} {cs : Array Value} {e : TypeId} {f : Nat × Nat} (h : w.heap[b]? = some (.cells cs e f)) : ∀ j u, cs.toList[j]? = some u → w.cell? ((⟨b, 0, none⟩ : Addr).add j) = some u := by
  intro j u hu
  rw [Addr.add_lit, Nat.zero_add, cell_of_row w b j cs e f h]
  simpa using hu
theorem row_own {β : Type} (B : β → Nat) (c : β → Array Value) (t : TypeId) : Go.Own (fun (s : β) W => W.heap[B s]? = some (.cells (c s) t (0, 0))) := by
  intro s X Y row h hg hr
  refine (hg.block _ (lt_of_heap h) (fun e => ?_)).trans h
  obtain ⟨o, ho, hc⟩ := hr _ e.symm
  rw [h] at ho; cases ho; cases hc

set_option maxRecDepth 100000 in
set_option maxHeartbeats 4000000 in
theorem rtAppendSeq_in (Fe : Fence) (n : Nat) (h3 : Fe.fn 35) (hro : Fe.round = none) (hn : 4 ≤ n) {gf : Nat} (hgf : Fe.fn gf) (lb : Array Value) (eg : ∀ args w, (callFunc gf args).run Try.prog w = .ok (.enter gf args) w)
    {S Sp : List Rt → Prop} {N : Nat} (hN : N ≤ 1000000) (w : World) (hseq : SeqStopsK Fe (n - 1) Try.prog gf lb (fun x => #[evR x]) KeepsWalks S Sp N w) :
    CallsIn Fe n Try.prog 35 #[.slice none 0 0, .func (.func gf) #[] lb] w fun e W' => ∃ v xs, e = .returned v ∧ S xs ∧ xs.length ≤ N ∧ W'.ownsRow w.heap.size 33 4 v xs.length (xs.flatMap encR) ∧ Below w.heap.size w W' := by
  have h1 : 1 ≤ n := by omega
  obtain ⟨i0, hi, hz0, hz1, hz2⟩ := info_parts info_route
  refine callsIn_of_wp_marks Try.func35 rfl h3 ?_ hro
  simp only [Try.ntmps35, List.size_toArray, List.length_cons, List.length_nil, Nat.reduceAdd, Nat.reduceSub, Array.replicate_succ, Array.replicate_zero, List.push_toArray, List.append_toArray, List.nil_append, List.cons_append]
  gi_wp2
  have bS := Boxed.new w 46 (.slice none 0 0)
  have hB0 : Below w.heap.size w (w.alloc (.cells #[.slice none 0 0] 46)) := (Below.refl _ w).alloc (Nat.le_refl _) _
  have hsz : (w.alloc (.cells #[.slice none 0 0] 46)).heap.size = w.heap.size + 1 := by simp
  obtain ⟨W0, hW0⟩ : ∃ W0, w.alloc (.cells #[.slice none 0 0] 46) = W0 := ⟨_, rfl⟩
  rw [hW0] at bS hB0 hsz ⊢
  clear hW0
  refine wpIn_rangeFunc_ownH hro h1 (gf := gf) (lb := lb) rfl hgf eg hseq walksK_t walksK_b hB0 (fun _ => rfl)
    (fun pre W => ((∃ v, Boxed W w.heap.size 46 v ∧ W.ownsRow w.heap.size 33 4 v pre.length (pre.flatMap encR) ∧ (v = .slice none 0 0 ↔ pre = [])) ∧ Below w.heap.size w W) ∧ pre.length ≤ N)
    (fun _ _ _ => False)
    (OwnFrom.and (OwnFrom.and (Go.Own.from (holdsRow_own w.heap.size w.heap.size 46 33 4 (fun pre : List Rt => pre.length) (fun pre => pre.flatMap encR) (fun pre v => v = .slice none 0 0 ↔ pre = [])) _) (ownFrom_below (Nat.le_refl _) (by omega))) (fun _ _ _ _ h _ _ => h))
    (fun _ _ _ _ _ hs _ _ => hs)
    ⟨⟨⟨.slice none 0 0, bS, World.ownsRow_nil _ _ _ _, by simp⟩, hB0⟩, Nat.zero_le _⟩
    (fun x a' W => ∃ Bx, w.heap.size < Bx ∧ W.heap[Bx]? = some (.cells (encR x).toArray 33 (0, 0)) ∧ a' = { tmps := #[.slice none 0 0, .func (.func gf) #[] lb, .pointer (some ⟨w.heap.size, 0, none⟩), undef, .slice none 0 0, .pointer (some ⟨Bx, 0, none⟩), .func (.func gf) #[] lb, evR x, undef, undef, undef, undef, undef], defers := [] })
    (fun x a' _ X Y row hs hg hr => by obtain ⟨Bx, h1, h2, h3⟩ := hs; exact ⟨Bx, h1, row_own (fun _ : Unit => Bx) (fun _ => (encR x).toArray) 33 () X Y row h2 hg (fun r e => (hr r e).2), h3⟩)
    ?assign ?body ?done ?stop
  case assign =>
    rintro l pre ⟨a, b, c, d⟩ W K ⟨⟨⟨v, bS1, hr1, hv1⟩, hB1⟩, hN1⟩ hK
    simp only [evR]
    have HK := Lib.hid hK
    clear hK
    gi_wp2
    exact HK.out _ _ ((KeepsOthers.alloc _ _).from _) (keeps_of_others (KeepsOthers.alloc _ _)) ⟨⟨⟨v, bS1.alloc _, hr1.alloc _, hv1⟩, hB1.alloc hB1.size _⟩, hN1⟩ ⟨W.heap.size, bS1.lt, heap_alloc_new W _, rfl⟩
  case body =>
    rintro l pre ⟨a, b, c, d⟩ a' W hl hrec ⟨⟨⟨v, bS1, hr1, hv1⟩, hB1⟩, hN1⟩ ⟨Bx, hBx, bX, rfl⟩ hlt
    have bX' : W.heap[Bx]? = some (.cells #[.int .u32 a, .int .i64 b, .int .u32 c, .int .i64 d] 33 (0, 0)) := bX
    have c0 := cell_of_row W _ 0 _ _ _ bX'
    have c1 := cell_of_row W _ 1 _ _ _ bX'
    have c2 := cell_of_row W _ 2 _ _ _ bX'
    have c3 := cell_of_row W _ 3 _ _ _ bX'
    simp only [List.getElem?_toArray, List.getElem?_cons_zero, List.getElem?_cons_succ] at c0 c1 c2 c3
    have cS := bS1.cell
    have hsW := hB1.size
    have HX := Lib.hid bX
    have HX' := Lib.hid bX'
    have HV := Lib.hid hv1
    clear bX bX' hv1 hrec
    simp only [evR]
    gi_wp2_with (first | (gi_at_builtin; refine wpListIn_append_own _ rfl _ _ 46 rfl w.heap.size 33 i0 _ 4 32 Try.underlying46 hi hz0 hz1 hz2 rfl (by decide) _ _ _ rfl (hr1.alloc _) ⟨W.heap.size, 0, none⟩ 1 1 [.int .u32 a, .int .i64 b, .int .u32 c, .int .i64 d] rfl rfl (cellsAt (heap_alloc_new W _)) (by simp [Value.oneCell']) (by unfold maxLen; omega) (by omega) (by have := hB1.size; simp; omega) ?_; intro v' w1 hown' hgrow _; obtain ⟨g', cap', rfl⟩ := ownsRow_succ hown'; obtain ⟨hv1', hv2, hr2, hk2, hb2⟩ := bS1.appended (by decide) hr1 hsW (Nat.le_refl _) hown' hgrow; have hc1 := hv1'.cell; have hf1 := hv1'.frozen) | gi_in)
    have hfl : (pre ++ [(⟨a, b, c, d⟩ : Rt)]).flatMap encR = pre.flatMap encR ++ [.int .u32 a, .int .i64 b, .int .u32 c, .int .i64 d] := by simp [encR]
    exact ⟨hk2.from _, keeps_of_others hk2, ⟨⟨⟨_, hv2, by rw [hfl]; simpa using hr2, by simp⟩, hB1.trans hb2⟩, by simp; omega⟩⟩
  case done =>
    rintro D xs W hD hS ⟨⟨⟨v, bS1, hr1, hv1⟩, hB1⟩, hN1⟩ hK
    have cS := bS1.cell
    gi_wp2
    refine ⟨by simp, .inl ⟨_, _, rfl, run_takeDeferred hK, ?_⟩⟩
    exact ⟨_, results_tmp rfl _ _ _, v, xs, rfl, hS, hN1, ownsRow_putObj hr1 _ hK rfl, hB1.trans (belowK_b (w := w) (Nat.le_refl _) W D _ _ (by omega) hK rfl rfl)⟩
  case stop =>
    rintro D c pre W _ _ h _
    exact h.elim

/-- slices.Collect(maps.Values(..)): a new slice, or nil. -/
theorem rtCollect_any {mb Bm : Nat} {m : List ((Int × Int) × Rt)} (w : World) (hm : w.cell? ⟨Bm, 0, none⟩ = some (.map (some mb))) (hmp : MpR w mb m) (hl : m.length ≤ 1000000) :
    Calls Try.prog 30 #[.func (.func 32) #[] #[.pointer (some ⟨Bm, 0, none⟩)]] w fun e W' => ∃ (v : Value) (xs : List Rt), e = .returned v ∧ xs.Perm (m.map (·.2)) ∧ xs.length ≤ m.length ∧ W'.ownsRow w.heap.size 33 4 v xs.length (xs.flatMap encR) ∧ Below w.heap.size w W' := by
  have h := fun W hm hmp => callsIn_wide.1 (rtAppendSeq_in Fence.wide 5 trivial rfl (by omega) (gf := 32) trivial #[.pointer (some ⟨Bm, 0, none⟩)] (enters_of Try.func32 (by kernel_rfl) rfl) (N := m.length) hl W
    (rtValues_stops Fence.wide 4 trivial rfl (by omega) Bm mb m W (lt_of_cell hm) hm hmp))
  have H := Lib.hid (h w hm hmp)
  clear h
  go_enter Try.func30, Try.ntmps30
  go_wp2_with (go_at_call 35; refine Calls.mono H.out ?_; rintro e w1 ⟨v, xs, rfl, h1, h2, h3, h4⟩)
  go_ret
  exact ⟨v, xs, rfl, h1, h2, h3, h4⟩

/-- What List tells: the routes, sorted, in new memory; nil if there are none. -/
def ListP (w : World) (m : List ((Int × Int) × Rt)) (e : Ending) (w' : World) : Prop :=
  ∃ (ao : Option Addr) (n cap : Nat) (xs : List Rt), e = .returned (.slice ao n cap) ∧ n = xs.length ∧ xs.Perm (m.map (·.2)) ∧ xs.Pairwise (fun x y => ltR y x = false) ∧ Own w' 33 4 ao n cap (xs.flatMap encR) ∧ (∀ a, ao = some a → w.heap.size ≤ a.block) ∧ Fr No w w'

theorem ltOf_R : Go.Proofs.ltOf cmpR = ltR := by
  funext x y
  exact cmpR_neg x y
theorem swoR : Go.Sort.SWO (Go.Proofs.ltOf cmpR) := by
  rw [ltOf_R]
  constructor
  · intro x; simp [ltR]
  · intro x y z h1 h2; simp [ltR] at *; omega
  · intro x y z h1 h2; simp [ltR] at *; omega

theorem rtSort_any {w : World} {ao : Option Addr} {n cap : Nat} {xs : List Rt} (hn : n = xs.length) (ho : Own w 33 4 ao n cap (xs.flatMap encR)) (hs : n ≤ 1000000) :
    Calls Try.prog 31 #[.slice ao n cap, .func (.func 26) #[] #[]] w fun e w' => e = .returned (.tuple #[]) ∧
      ∃ ys : List Rt, ys.Perm xs ∧ ys.Pairwise (fun x y => ltR y x = false) ∧ Own w' 33 4 ao n cap (ys.flatMap encR) ∧ Fr (At ao) w w' := by
  cases ao with
  | none =>
    have h0 := ho.nocap rfl
    have h1 := ho.le
    have hn0 : n = 0 := by omega
    have hx : xs = [] := List.eq_nil_of_length_eq_zero (by omega)
    subst hx hn0 h0
    have h := Go.Proofs.AnyF.slices_SortFunc_none sortRt none 0 (.func (.func 26) #[] #[]) w
    change Calls Try.prog 31 _ _ _ at h
    refine h.mono ?_
    rintro e w' ⟨rfl, rfl⟩
    exact ⟨rfl, [], List.Perm.refl _, List.Pairwise.nil, ho, Fr.refl _ _⟩
  | some a =>
    obtain ⟨ha, _⟩ := ho.row a rfl
    obtain ⟨blk, off, sp⟩ := a
    cases ha
    have h := sort_own sortRt (k := 4) (by omega) Try.isAgg33 Try.sizeOf33 (enc := encR) (fun _ => rfl) (fun x v hv => by simp [encR] at hv; rcases hv with rfl | rfl | rfl | rfl <;> rfl) cmpR swoR 26 #[]
      (enters_of Try.func26 (by kernel_rfl) rfl) hn ho hs (fun size w => cmpLaysR blk 0 size w)
    change Calls Try.prog 31 _ _ _ at h
    refine h.mono ?_
    rintro e w' ⟨rfl, ys, h1, h2, h3, h4⟩
    exact ⟨rfl, ys, h1, by rw [ltOf_R] at h2; exact h2, h3, h4.mono (fun k _ (hk : k = blk) => ⟨_, rfl, hk.symm⟩)⟩

theorem rtSorted_any {mb Bm : Nat} {m : List ((Int × Int) × Rt)} (w : World) (hm : w.cell? ⟨Bm, 0, none⟩ = some (.map (some mb))) (hmp : MpR w mb m) (hl : m.length ≤ 1000000) :
    Calls Try.prog 24 #[.func (.func 32) #[] #[.pointer (some ⟨Bm, 0, none⟩)], .func (.func 26) #[] #[]] w (ListP w m) := by
  have H := Lib.hid (rtCollect_any w hm hmp hl)
  clear hm hmp
  go_enter Try.func24, Try.ntmps24
  go_wp2_with (go_at_call 30; refine Calls.mono H.out ?_; rintro e w1 ⟨v, xs, rfl, h1, h2, h3, h4⟩)
  obtain ⟨ao, cap, rfl, ho, hb⟩ := Own.of_owns h3
  have HO := Lib.hid (rtSort_any rfl ho (by omega))
  have HB := Lib.hid hb
  have H1 := Lib.hid h1
  have H4 := Lib.hid h4
  clear h1 h3 h4 ho hb
  go_wp2_with (go_at_call 31; refine Calls.mono HO.out ?_; rintro e w2 ⟨rfl, ys, k1, k2, k3, k4⟩)
  go_ret
  exact ⟨ao, xs.length, cap, ys, rfl, k1.length_eq.symm, k1.trans H1.out, k2, k3, HB.out, ((Fr.of_below H4.out).then k4 (fun i hi ⟨a, ha, hai⟩ => by have := HB.out a ha; omega)).up (Nat.le_refl _)⟩

theorem rtList_any {w : World} {tb mb : Nat} {m : List ((Int × Int) × Rt)} (h : RTb w tb mb m) (hl : m.length ≤ 1000000) :
    Calls Try.prog 17 #[.pointer (some ⟨tb, 0, none⟩)] w (ListP w m) := by
  have kt := h.cell
  have hv := callsIn_wide.1 (rtValues_in Fence.wide 5 trivial rfl (some mb) w)
  have h2 := h.mp.no ((Fr.refl No w).alloc (.cells #[.map (some mb)] 56))
  have hc : (w.alloc (.cells #[.map (some mb)] 56)).cell? ⟨w.heap.size, 0, none⟩ = some (.map (some mb)) := cell_box (heap_alloc_new w _)
  have HS := Lib.hid (rtSorted_any _ hc h2 hl)
  have HV := Lib.hid hv
  clear hv h2 hc h
  go_enter Try.func17, Try.ntmps17
  go_wp2_with (first | (go_at_call 25; refine Calls.mono HV.out ?_; rintro e w1 ⟨rfl, rfl⟩) | (go_at_call 24; refine Calls.mono HS.out ?_; rintro e w2 ⟨ao, _, cap, xs, rfl, rfl, h2, h3, h4, h5, h6⟩))
  go_ret
  exact ⟨ao, _, cap, xs, rfl, rfl, h2, h3, h4, fun a ha => by have := h5 a ha; simp at this; omega, ((Fr.refl No w).alloc _).then_no h6⟩

end Go.Proofs.Ytapiaaffnhmmiaa
