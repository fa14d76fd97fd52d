/- fdb: slices.AppendSeq, Collect at pointers. -/
import Derived.Test.YticebdoiahadoaaFd15
namespace Go.Proofs.Yticebdoiahadoaa
open Go.RowKit Go.Shelf
set_option linter.unusedVariables false
set_option linter.unusedSimpArgs false
attribute [local go_sem] Oper.semAt_some

theorem info_pfentry : (Try.prog.info? 86).map (fun i => (i.zero, i.size, i.bytes)) = some (some (.pointer none), 1, 8) := by kernel_rfl
theorem cellsAt {w : World} {b : Nat} {cs : Array Value} {e : TypeId} {f : Nat × Nat} (h : w.heap[b]? = some (.cells cs e f)) : ∀ j u, cs.toList[j]? = some u → w.cell? ((⟨b, 0, none⟩ : Addr).add j) = some u := by
  intro j u hu
  rw [Addr.add_lit, Nat.zero_add, cell_of_row w b j cs e f h]
  simpa using hu

set_option maxRecDepth 100000 in
set_option maxHeartbeats 4000000 in
theorem fbAppendSeq_in (Fe : Fence) (n : Nat) (h3 : Fe.fn 108) (hro : Fe.round = none) (hn : 4 ≤ n) {gf : Nat} (hgf : Fe.fn gf) (lb : Array Value) (eg : ∀ args w, (callFunc gf args).run Try.prog w = .ok (.enter gf args) w)
    {S Sp : List Nat → Prop} {N : Nat} (hN : N ≤ 1000000) (w : World) (hseq : SeqStopsK Fe (n - 1) Try.prog gf lb (fun x => #[evP x]) KeepsWalks S Sp N w) :
    CallsIn Fe n Try.prog 108 #[.slice none 0 0, .func (.func gf) #[] lb] w fun e W' => ∃ v xs, e = .returned v ∧ S xs ∧ xs.length ≤ N ∧ W'.ownsRow w.heap.size 86 1 v xs.length (xs.map evP) ∧ Below w.heap.size w W' := by
  have h1 : 1 ≤ n := by omega
  obtain ⟨i0, hi, hz0, hz1, hz2⟩ := info_parts info_pfentry
  refine callsIn_of_wp_marks Try.func108 rfl h3 ?_ hro
  simp only [Try.ntmps108, List.size_toArray, List.length_cons, List.length_nil, Nat.reduceAdd, Nat.reduceSub, Array.replicate_succ, Array.replicate_zero, List.push_toArray, List.append_toArray, List.nil_append, List.cons_append]
  gi_wp2
  have bS := Boxed.new w 145 (.slice none 0 0)
  have hB0 : Below w.heap.size w (w.alloc (.cells #[.slice none 0 0] 145)) := (Below.refl _ w).alloc (Nat.le_refl _) _
  have hsz : (w.alloc (.cells #[.slice none 0 0] 145)).heap.size = w.heap.size + 1 := by simp
  obtain ⟨W0, hW0⟩ : ∃ W0, w.alloc (.cells #[.slice none 0 0] 145) = W0 := ⟨_, rfl⟩
  rw [hW0] at bS hB0 hsz ⊢
  clear hW0
  refine wpIn_rangeFunc_ownH hro h1 (gf := gf) (lb := lb) rfl hgf eg hseq walksK_t walksK_b hB0 (fun _ => rfl)
    (fun pre W => ((∃ v, Boxed W w.heap.size 145 v ∧ W.ownsRow w.heap.size 86 1 v pre.length (pre.map evP) ∧ (v = .slice none 0 0 ↔ pre = [])) ∧ Below w.heap.size w W) ∧ pre.length ≤ N)
    (fun _ _ _ => False)
    (OwnFrom.and (OwnFrom.and (Go.Own.from (holdsRow_own w.heap.size w.heap.size 145 86 1 (fun pre : List Nat => pre.length) (fun pre => pre.map evP) (fun pre v => v = .slice none 0 0 ↔ pre = [])) _) (ownFrom_below (Nat.le_refl _) (by omega))) (fun _ _ _ _ h _ _ => h))
    (fun _ _ _ _ _ hs _ _ => hs)
    ⟨⟨⟨.slice none 0 0, bS, World.ownsRow_nil _ _ _ _, by simp⟩, hB0⟩, Nat.zero_le _⟩
    (fun x a' W => a' = { tmps := #[.slice none 0 0, .func (.func gf) #[] lb, .pointer (some ⟨w.heap.size, 0, none⟩), undef, .slice none 0 0, evP x, .func (.func gf) #[] lb, evP x, undef, undef, undef, undef, undef], defers := [] })
    (fun x a' _ X Y row hs hg hr => hs)
    ?assign ?body ?done ?stop
  case assign =>
    rintro l pre x W K hJ hK
    simp only [evP]
    have HK := Lib.hid hK
    clear hK
    gi_wp2
    exact HK.out _ _ (KeepsOthers.refl _ |>.from _) (keeps_of_others (KeepsOthers.refl _)) hJ rfl
  case body =>
    rintro l pre x a' W hl hrec ⟨⟨⟨v, bS1, hr1, hv1⟩, hB1⟩, hN1⟩ rfl hlt
    have cS := bS1.cell
    have hsW := hB1.size
    have HV := Lib.hid hv1
    clear hv1 hrec
    simp only [evP]
    gi_wp2_with (first | (gi_at_builtin; refine wpListIn_append_own _ rfl _ _ 145 rfl w.heap.size 86 i0 _ 1 8 Try.underlying145 hi hz0 hz1 hz2 rfl (by decide) _ _ _ rfl (hr1.alloc _) ⟨W.heap.size, 0, none⟩ 1 1 [evP x] rfl rfl (cellsAt (heap_alloc_new W _)) (by simp [evP, Value.oneCell']) (by unfold maxLen; omega) (by omega) (by have := hB1.size; simp; omega) ?_; intro v' w1 hown' hgrow _; obtain ⟨g', cap', rfl⟩ := ownsRow_succ hown'; obtain ⟨hv1', hv2, hr2, hk2, hb2⟩ := bS1.appended (by decide) hr1 hsW (Nat.le_refl _) hown' hgrow; have hc1 := hv1'.cell; have hf1 := hv1'.frozen) | gi_in)
    exact ⟨hk2.from _, keeps_of_others hk2, ⟨⟨⟨_, hv2, by rw [List.map_append]; simpa using hr2, by simp⟩, hB1.trans hb2⟩, by simp; omega⟩⟩
  case done =>
    rintro D xs W hD hS ⟨⟨⟨v, bS1, hr1, hv1⟩, hB1⟩, hN1⟩ hK
    have cS := bS1.cell
    gi_wp2
    refine ⟨by simp, .inl ⟨_, _, rfl, run_takeDeferred hK, ?_⟩⟩
    exact ⟨_, results_tmp rfl _ _ _, v, xs, rfl, hS, hN1, ownsRow_putObj hr1 _ hK rfl, hB1.trans (belowK_b (w := w) (Nat.le_refl _) W D _ _ (by omega) hK rfl rfl)⟩
  case stop =>
    rintro D c pre W _ _ h _
    exact h.elim

/-- slices.Collect(maps.Values(..)): a new slice, or nil. -/
theorem fbCollect_any {mb Bm : Nat} {m : List (Mac × Nat)} (w : World) (hm : w.cell? ⟨Bm, 0, none⟩ = some (.map (some mb))) (hmp : Mp okM evM evP w mb m) (hl : m.length ≤ 1000000) :
    Calls Try.prog 94 #[.func (.func 109) #[] #[.pointer (some ⟨Bm, 0, none⟩)]] w fun e W' => ∃ (v : Value) (xs : List Nat), e = .returned v ∧ xs.Perm (m.map (·.2)) ∧ xs.length ≤ m.length ∧ W'.ownsRow w.heap.size 86 1 v xs.length (xs.map evP) ∧ Below w.heap.size w W' := by
  have h := fun W hm hmp => callsIn_wide.1 (fbAppendSeq_in Fence.wide 5 trivial rfl (by omega) (gf := 109) trivial #[.pointer (some ⟨Bm, 0, none⟩)] (enters_of Try.func109 (by kernel_rfl) rfl) (N := m.length) hl W
    (fbValues_stops Fence.wide 4 trivial rfl (by omega) Bm mb m W (lt_of_cell hm) hm hmp))
  have H := Lib.hid (h w hm hmp)
  clear h
  go_enter Try.func94, Try.ntmps94
  go_wp2_with (go_at_call 108; refine Calls.mono H.out ?_; rintro e w1 ⟨v, xs, rfl, h1, h2, h3, h4⟩)
  go_ret
  exact ⟨v, xs, rfl, h1, h2, h3, h4⟩
end Go.Proofs.Yticebdoiahadoaa
