/- bridge: New. -/
import Derived.Test.YticebdoiahadoaaBg11
namespace Go.Proofs.Yticebdoiahadoaa
open Go.RowKit
set_option linter.unusedVariables false
set_option linter.unusedSimpArgs false

def pS (m : SgM) : Value := .pointer (some ⟨m.sb, 0, none⟩)
structure NewI (w0 wr : World) (room life : Int) (bb nb k : Nat) (ms : List SgM) : Prop where
  box : wr.heap[bb]? = some (.cells (ms.map pS ++ (List.replicate (8 - k) (Value.pointer none) ++ [Value.map (some nb)])).toArray 80 (0, 0))
  len : ms.length = k
  mp : Mp okI evI evI wr nb ([] : List (Int × Int))
  seg : ∀ m ∈ ms, SgAt wr room life m ⟨[], [], []⟩
  lo : ∀ m ∈ ms, ∀ i, m.all i → w0.heap.size ≤ i ∧ i ≠ bb ∧ i ≠ nb
  dis : ms.Pairwise (fun m m' => ∀ i, m.all i → ¬ m'.all i)
  fr : Fr No w0 wr
  b0 : w0.heap.size ≤ bb
  n0 : w0.heap.size ≤ nb
theorem NewI.ne {w0 wr : World} {room life : Int} {bb nb k : Nat} {ms : List SgM} (h : NewI w0 wr room life bb nb k ms) : nb ≠ bb := by
  intro e
  obtain ⟨es, c, hm, -⟩ := h.mp.ex
  rw [e, h.box] at hm; cases hm
theorem NewI.cell {w0 wr : World} {room life : Int} {bb nb k : Nat} {ms : List SgM} (h : NewI w0 wr room life bb nb k ms) (hk : k < 8) : wr.cell? ⟨bb, k, none⟩ = some (.pointer none) := by
  rw [cell_of_row wr _ _ _ _ _ h.box]
  simp only [List.getElem?_toArray]
  rw [List.getElem?_append_right (by rw [List.length_map, h.len]; exact Nat.le_refl _), List.length_map, h.len, Nat.sub_self, show 8 - k = (7 - k) + 1 by omega, List.replicate_succ]; rfl
theorem new_set (ms : List SgM) (k nb : Nat) (hk : k < 8) (hl : ms.length = k) (m : SgM) :
    (ms.map pS ++ (List.replicate (8 - k) (Value.pointer none) ++ [Value.map (some nb)])).toArray.setIfInBounds k (pS m) = ((ms ++ [m]).map pS ++ (List.replicate (8 - (k + 1)) (Value.pointer none) ++ [Value.map (some nb)])).toArray := by
  rw [List.setIfInBounds_toArray, List.set_append_right _ _ (by rw [List.length_map, hl]; exact Nat.le_refl _), List.length_map, hl, Nat.sub_self, show 8 - k = (8 - (k + 1)) + 1 by omega, List.replicate_succ]
  simp [pS]
theorem NewI.step {w0 wr w1 : World} {room life : Int} {bb nb k : Nat} {ms : List SgM} (h : NewI w0 wr room life bb nb k ms) (hk : k < 8) {tb mb : Nat} (hfd : Fd w1 tb mb room life []) (f1 : Fr No wr w1) (ht : wr.heap.size ≤ tb) (hm : wr.heap.size ≤ mb) :
    ∃ ms', NewI w0 ((w1.alloc (.cells #[.pointer (some ⟨tb, 0, none⟩), .slice none 0 0, .slice none 0 0] 83)).setCell ⟨bb, k, none⟩ (.pointer (some ⟨w1.heap.size, 0, none⟩))) room life bb nb (k + 1) ms' := by
  have hb1 := f1.heap h.box (fun h => h)
  have hbl : bb < wr.heap.size := lt_of_heap h.box
  have hnl : nb < wr.heap.size := h.mp.lt
  have hs0 : w0.heap.size ≤ wr.heap.size := h.fr.size
  have hs1 : wr.heap.size ≤ w1.heap.size := f1.size
  obtain ⟨m, hmd⟩ : ∃ m : SgM, (⟨w1.heap.size, tb, mb, [], none, 0, 0, none, 0, 0⟩ : SgM) = m := ⟨_, rfl⟩
  have hmall : ∀ i, m.all i → wr.heap.size ≤ i := by
    subst hmd
    rintro i (e | e | e | ⟨p, hp, e⟩ | ⟨a, ha, e⟩ | ⟨a, ha, e⟩)
    · have e : i = w1.heap.size := e
      omega
    · have e : i = tb := e
      omega
    · have e : i = mb := e
      omega
    · cases hp
    · cases ha
    · cases ha
  have hv : (Value.pointer (some ⟨w1.heap.size, 0, none⟩)) = pS m := by subst hmd; rfl
  rw [hv]
  have fal := (Fr.refl No w1).alloc (.cells #[.pointer (some ⟨tb, 0, none⟩), .slice none 0 0, .slice none 0 0] 83)
  have hnew := heap_alloc_new w1 (.cells #[.pointer (some ⟨tb, 0, none⟩), .slice none 0 0, .slice none 0 0] 83)
  generalize w1.alloc _ = w2 at fal hnew ⊢
  have hrow := set_row (fal.heap hb1 (fun h => h)) k (pS m)
  rw [new_set ms k nb hk h.len m] at hrow
  have fset : Fr (Is bb) w2 (w2.setCell ⟨bb, k, none⟩ (pS m)) := (Fr.refl (Is bb) w2).setCell (p := ⟨bb, k, none⟩) (.inl (show bb = bb from rfl)) _
  have fw : Fr No w0 (w2.setCell ⟨bb, k, none⟩ (pS m)) := ((h.fr.trans f1).trans fal).setCell (p := ⟨bb, k, none⟩) (.inr h.b0) _
  have f2 := f1.trans fal
  generalize World.setCell _ _ _ = w3 at hrow fset fw ⊢
  have nfd : Fd w3 tb mb room life [] := (hfd.no fal).fr fset (fun e => by simp only [Is] at e; omega) (fun e => by simp only [Is] at e; omega) (fun p hp => by cases hp)
  refine ⟨ms ++ [m], hrow, by simp [h.len], (h.mp.no f2).fr fset (fun e => h.ne e), ?_, ?_, ?_, fw, h.b0, h.n0⟩
  · intro m' hm'
    rcases List.mem_append.1 hm' with hm' | hm'
    · exact ((h.seg m' hm').no f2).fr fset (fun i hi e => (h.lo m' hm' i hi).2.1 e)
    · rw [List.mem_singleton] at hm'
      subst hm'; subst hmd
      exact ⟨fset.heap hnew (fun e => by simp only [Is] at e; omega), nfd, Ab.nil, OI.nil _, OI.nil _⟩
  · intro m' hm' i hi
    rcases List.mem_append.1 hm' with hm' | hm'
    · exact h.lo m' hm' i hi
    · rw [List.mem_singleton] at hm'
      subst hm'
      have := hmall i hi
      exact ⟨by omega, by omega, by omega⟩
  · rw [List.pairwise_append]
    refine ⟨h.dis, by simp, fun m' hm' m2 hm2 i hi hi2 => ?_⟩
    rw [List.mem_singleton] at hm2
    subst hm2
    have h1 := (h.seg m' hm').lt hi
    have h2 := hmall i hi2
    omega
theorem NewI.done {w0 wr : World} {room life : Int} {bb nb : Nat} {ms : List SgM} (h : NewI w0 wr room life bb nb 8 ms) : BrAt wr room life ⟨bb, nb, ms⟩ AB.new ∧ (∀ i, BrM.all ⟨bb, nb, ms⟩ i → w0.heap.size ≤ i) := by
  have hmem : ∀ n, okSeg n → (BrM.mk bb nb ms).at n ∈ ms := fun n hn => List.mem_of_getElem? (BrM.getD (B := ⟨bb, nb, ms⟩) h.len hn)
  refine ⟨⟨h.box, h.len, fun n hn => ?_, h.mp, fun n n' hn hn' hne i hi hi' => ?_, fun n hn e => ?_, Good.new⟩, ?_⟩
  · rw [new_at hn]; exact h.seg _ (hmem n hn)
  · have g1 := BrM.getD (B := ⟨bb, nb, ms⟩) h.len hn
    have g2 := BrM.getD (B := ⟨bb, nb, ms⟩) h.len hn'
    have hp := List.pairwise_iff_getElem.1 h.dis
    obtain ⟨a1, a2⟩ := List.getElem?_eq_some_iff.1 g1
    obtain ⟨c1, c2⟩ := List.getElem?_eq_some_iff.1 g2
    rw [← a2] at hi
    rw [← c2] at hi'
    obtain ⟨o1, o2⟩ := hn
    obtain ⟨o3, o4⟩ := hn'
    rcases Nat.lt_or_gt_of_ne (show n.toNat ≠ n'.toNat by omega) with hl | hl
    · exact hp _ _ a1 c1 hl i hi hi'
    · exact hp _ _ c1 a1 hl i hi' hi
  · exact (h.lo _ (hmem n hn) _ (.inr (.inr (.inl rfl)))).2.2 e
  · rintro i (e | e | ⟨n, hn, hi⟩)
    · have e : i = bb := e
      have := h.b0; omega
    · have e : i = nb := e
      have := h.n0; omega
    · exact (h.lo _ (hmem n hn) _ hi).1

set_option maxRecDepth 100000 in
set_option maxHeartbeats 4000000 in
theorem bgNew_any (w : World) (room life : Int) (hl0 : 0 ≤ life) (hl1 : life < 18446744073709551616) {rm : Int} (hrm : min (max room 1) 64 = rm) :
    Calls Try.prog 11 #[.int .i64 room, .int .u64 life] w fun e w' => ∃ B, e = .returned (.pointer (some ⟨B.bb, 0, none⟩)) ∧ BrAt w' rm life B AB.new ∧ (∀ i, B.all i → w.heap.size ≤ i) ∧ Fr No w w' := by
  have hmm := @run_makeMap Try.prog
  have HRM := Lib.hid hrm
  clear hrm
  go_enter Try.func11, Try.ntmps11
  go_wp2_with fail
  have hst : NewI w ((w.alloc (.map #[] 0)).alloc (.cells #[.pointer none, .pointer none, .pointer none, .pointer none, .pointer none, .pointer none, .pointer none, .pointer none, .map (some w.heap.size)] 80)) rm life (w.heap.size + 1) w.heap.size 0 [] :=
    ⟨by have := heap_alloc_new (w.alloc (.map #[] 0)) (.cells #[.pointer none, .pointer none, .pointer none, .pointer none, .pointer none, .pointer none, .pointer none, .pointer none, .map (some w.heap.size)] 80)
        simpa using this, rfl, (Mp.made w).no ((Fr.refl No _).alloc _), (fun m hm => by cases hm), (fun m hm => by cases hm), List.Pairwise.nil, ((Fr.refl No w).alloc _).alloc _, by omega, Nat.le_refl _⟩
  generalize World.alloc _ _ = w2 at hst ⊢
  have HST := Lib.hid hst
  clear hst
  go_loopw [10] (fun t10 wr => ∃ (k : Nat) (ms : List SgM), k ≤ 8 ∧ t10 = .int .i64 k ∧ NewI w wr rm life (w.heap.size + 1) w.heap.size k ms) (fun t10 _ => 8 - (intOf t10).toNat)
  case atStart => exact ⟨0, [], by omega, rfl, HST.out⟩
  case round =>
    obtain ⟨k, ms, hk, rfl, hi⟩ := hrel
    have HI := Lib.hid hi
    by_cases hlt : k < 8
    · have n1 : (k : Int) < 8 := by omega
      clear hi
      go_wp2_with fail
      go_region_held3 (fun w' => True) (trivial)
        (first | (go_at_call 38; refine (fbNew_any _ room life hl0 hl1).mono ?_; rw [HRM.out]; rintro e w1 ⟨rfl, fd1, f1⟩; have c1 := f1.cell (p := ⟨w.heap.size + 1, k, none⟩) (HI.out.cell hlt) (fun h => h); have z1 := frozen_of_row w1 (w.heap.size + 1) k _ _ (f1.heap HI.out.box (fun h => h)); have d1 := fun o => al_cell c1 o; have y1 := fun o => frozen_of_row (w1.alloc o) (w.heap.size + 1) k _ _ (((Fr.refl No w1).alloc o).heap (f1.heap HI.out.box (fun h => h)) (fun h => h))))
      simp only [World.size_drew] at fd1
      have f2 : Fr No wr w1 := (Fr.refl No wr).drew.trans f1
      obtain ⟨ms', hn⟩ := HI.out.step hlt fd1 f2 (by omega) (by omega)
      have HN := Lib.hid hn
      clear hn c1 z1 fd1 d1 y1
      go_wp2_with fail
      go_roundw
      case rel => exact ⟨k + 1, ms', by omega, by go_num, HN.out⟩
      case measure => simp [intOf]; omega
    · obtain rfl : k = 8 := by omega
      clear hi
      go_wp2_with fail
      go_ret
      obtain ⟨h1, h2⟩ := HI.out.done
      exact ⟨⟨w.heap.size + 1, w.heap.size, ms⟩, rfl, h1, h2, HI.out.fr⟩
end Go.Proofs.Yticebdoiahadoaa
