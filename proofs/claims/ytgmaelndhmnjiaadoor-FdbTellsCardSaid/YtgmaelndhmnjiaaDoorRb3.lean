/- the reference's base: cut. -/
import Derived.Test.YtgmaelndhmnjiaaDoorRbQ
import Derived.Test.YtgmaelndhmnjiaaDoorRegTail
import Derived.Deep.RegionHeld3
import Derived.Deep.DrawnRows
import Derived.Deep.DeepCutAuto
import Derived.Deep.CutBlock
namespace Go.Proofs.YtgmaelndhmnjiaaDoor
open Go.RowKit
set_option linter.unusedVariables false
set_option linter.unusedSimpArgs false

theorem info_partsE {P : Program} {t : TypeId} {z : Value} {s b : Nat} (h : (P.info? t).map (fun i => (i.zero, i.size, i.bytes)) = some (some z, s, b)) : ∃ i, P.info? t = some i ∧ i.zero = some z ∧ i.size = s ∧ i.bytes = b := by
  cases hi : P.info? t with
  | none => rw [hi] at h; cases h
  | some i =>
    rw [hi] at h
    simp only [Option.map_some, Option.some.injEq, Prod.mk.injEq] at h
    exact ⟨i, rfl, h.1, h.2.1, h.2.2⟩
/-- append at []Entry, at a step of a region that draws its order. -/
theorem step_append_15 {w : World} {ops : Array Oper} {o : Oper} {a : Act} {K : Act → World → Prop} {Q : Exit → Act → World → Prop} {E : Prop} (s x : Operand)
    (hgd : o.guard = none) (hop : o.op = .call { callee := .builtin .append, args := #[s, x], argTypes := #[56, 56] })
    {ao : Option Addr} {n cap : Nat} (hev : a.eval s = .slice ao n cap) {bo : Option Addr} {m c : Nat} (hex : a.eval x = .slice bo m c)
    {xs ys : AL} (h1 : Own w 62 10 ao n cap (xs.flatMap encE)) (h2 : Sl w bo m c (ys.flatMap encE)) (hm : m = ys.length) (hb : n ≤ 1000000) (hb2 : m ≤ 1000000)
    (hK : ∀ ao' cap' w' n', Hid (n' = n + m) → Own w' 62 10 ao' n' cap' ((xs ++ ys).flatMap encE) → Fr (At ao) w w' → (ao' = ao ∨ ∀ a, ao' = some a → w.heap.size ≤ a.block) → K (a.put o.dst (.slice ao' n' cap')) w') :
    if Region.wanted o (yielded ops a.tmps) = true then Oper.wp Tryd.prog o a w K Q else E := by
  have hw : Region.wanted o (yielded ops a.tmps) = true := by simp [Region.wanted, hgd]
  rw [if_pos hw]
  obtain ⟨i0, hi, hz0, hz1, hz2⟩ := info_partsE info_r15entry
  obtain ⟨ao', cap', w', hrun, r1, r2, r3, r4, r5⟩ := run_append_U (P := Tryd.prog) w 56 o.type 62 i0 _ 10 40 Tryd.underlying56 hi hz0 hz1 hz2 rfl (by decide) ao n cap _ h1 bo m c _ h2 (by rw [hm, e_len]) (by
    intro u hu
    obtain ⟨r, -, hr⟩ := List.mem_flatMap.1 hu
    simp [encE, byteV] at hr
    rcases hr with rfl | rfl | rfl | rfl | rfl | rfl | rfl | rfl | rfl | rfl <;> rfl) (by omega) (by omega)
  unfold Oper.wp
  simp [execOp, hop, resolve, invoke, builtin, hev, hex, hrun, Result.andThen]
  rw [← List.flatMap_append] at r1
  exact hK ao' cap' w' _ (Lib.hid rfl) r1 r2 r3
theorem box2_set {w : World} {b : Nat} {c0 c1 c2 u : Value} {e : TypeId} (h : w.heap[b]? = some (.cells #[c0, c1, c2] e (0, 0))) : (w.setCell ⟨b, 2, none⟩ u).heap[b]? = some (.cells #[c0, c1, u] e (0, 0)) := by
  simp only [World.setCell, Array.getElem?_modify, if_true, h, Option.map_some, Option.isSome_none, Bool.false_eq_true, if_false]
  rfl
/-- The base's row is a new one. -/
def Put15 (w : World) (rb : Nat) (room life : Int) (rs' : AL) (w' : World) : Prop :=
  ∃ (ao' : Option Addr) (n' cap' : Nat), R15 w' rb ao' n' cap' room life rs' ∧ (∀ a, ao' = some a → w.heap.size ≤ a.block) ∧ Fr (Is rb) w w'
theorem put15_end {w w7 : World} {rb n cap n3 cap3 : Nat} {ao ao3 : Option Addr} {room life : Int} {rs rs' : AL} (QT : R15 w rb ao n cap room life rs)
    (G3 : Fr (Up w.heap.size) w w7) (O3 : Own w7 62 10 ao3 n3 cap3 (rs'.flatMap encE)) (E3 : ∀ a, ao3 = some a → w.heap.size ≤ a.block)
    (hn : n3 = rs'.length) (hok : ∀ e ∈ rs', e.ok) : .returned (.tuple #[]) = Ending.returned (.tuple #[]) ∧ Put15 w rb room life rs' (w7.setCell ⟨rb, 2, none⟩ (.slice ao3 n3 cap3)) := by
  have hrb : rb < w.heap.size := lt_of_heap QT.box
  have h1 := G3.heap QT.box (by simp only [Up]; omega)
  have hl := G3.size
  have f0 : Fr (Is rb) w w7 := G3.mono (fun i hi (h : w.heap.size ≤ i) => absurd hi (by omega))
  have f1 : Fr (Is rb) w (w7.setCell ⟨rb, 2, none⟩ (.slice ao3 n3 cap3)) := f0.setCell (p := ⟨rb, 2, none⟩) (.inl rfl) _
  refine ⟨rfl, ao3, n3, cap3, ⟨box2_set h1, hn, ?_, hok⟩, E3, f1⟩
  exact O3.fr (S := Is rb) ((Fr.refl (Is rb) w7).setCell (p := ⟨rb, 2, none⟩) (.inl rfl) _) (fun a ha (h : a.block = rb) => by have := E3 a ha; omega)

set_option maxRecDepth 100000 in
set_option maxHeartbeats 2000000 in
theorem r15cut_any {w : World} {rb n cap : Nat} {ao : Option Addr} {room life : Int} {rs : AL} (h : R15 w rb ao n cap room life rs) {i : Nat} (hin : i < n) (hl : rs.length ≤ 64) :
    Calls Tryd.prog 38 #[.pointer (some ⟨rb, 0, none⟩), .int .i64 i] w fun e w' => e = .returned (.tuple #[]) ∧ Put15 w rb room life (rs.take i ++ rs.drop (i + 1)) w' := by
  have hrl := lt_of_heap h.box
  have hc1 := h.own.le
  have hc2 := h.own.capLe
  have hn64 : n ≤ 64 := by rw [h.len]; exact hl
  have QT := Lib.hid h
  obtain ⟨gb, rfl⟩ := h.some_ hin
  have hgl := h.own.lt _ rfl
  simp only at hgl
  clear h
  go_enter Tryd.func38, Tryd.ntmps38
  have hi0 : (0 : Int) ≤ (i : Int) := by omega
  have hi1 : (i : Int) < (n : Int) := by omega
  have hi2 : (i : Int) ≤ (cap : Int) := by omega
  have hi3 : (i : Int) ≤ (n : Int) := by omega
  have hi4 : (i : Int) + 1 ≤ (n : Int) := by omega
  have hi5 : (0 : Int) ≤ (i : Int) + 1 := by omega
  have hi6 : (n : Int) ≤ (cap : Int) := by omega
  have hi7 : ¬ (i : Int) < 0 := by omega
  have hw1 : IntKind.i64.wrap ((i : Int) + 1) = (i : Int) + 1 := by rw [IntKind.wrap_i64]; omega
  have hw2 : ((i : Int) + 1).toNat = i + 1 := by omega
  have hk := Nat.le_of_lt hin
  have hk1 : i + 1 ≤ n := hin
  have HS1 : Hid (∀ W, Fr (Up w.heap.size) w W → Sl W (some ⟨gb, 0, none⟩) i cap ((rs.take i).flatMap encE)) := Lib.hid (fun W f => (QT.out.own.sl.uptoE hk).fr f (fun a ha => by cases ha; simp only [Up]; omega))
  have HS2 : Hid (∀ W, Fr (Up w.heap.size) w W → Sl W (if cap = i + 1 then some ⟨gb, 0, none⟩ else some ⟨gb, (i + 1) * 10, none⟩) (n - (i + 1)) (cap - (i + 1)) ((rs.drop (i + 1)).flatMap encE)) := Lib.hid (fun W f => (Sl.fromE QT.out.len QT.out.own.sl hk1).fr f (fun a ha => by split at ha <;> cases ha <;> simp only [Up] <;> omega))
  have OE := Lib.hid ((Own.made (w := w) (e := 62) (size := 10) #[] 0 rfl (by decide)).no (Fr.refl No _).drew)
  have SF : Hid (∀ w', Fr (Up w.heap.size) w w' → w'.cell? ⟨rb, 2, none⟩ = some (.slice (some ⟨gb, 0, none⟩) n cap) ∧ w'.frozen? ⟨rb, 2, none⟩ = false) := Lib.hid (by
    intro w' f
    have h1 := f.heap QT.out.box (by simp only [Up]; omega)
    exact ⟨by rw [cell_of_row w' rb 2 _ _ _ h1]; rfl, frozen_of_row w' rb 2 _ _ h1⟩)
  go_wp2_with fail
  refine wp_region_tail (S := (fun w' => w'.cell? ⟨rb, 2, none⟩ = some (.slice (some ⟨gb, 0, none⟩) n cap) ∧ w'.frozen? ⟨rb, 2, none⟩ = false)) rfl (by kernel_rfl) (by kernel_rfl) ?_ (fun hHeld => ?_)
  · ((try dsimp only); exact SF.out _ (Fr.refl _ w).drew)
  · skip
    simp only [List.dropLast_cons_cons, List.dropLast_singleton, List.length_cons, List.length_nil, Nat.zero_add, Nat.reduceAdd, List.replicate]
    apply wpAnyH_take (i := 0)
    · rfl
    · kernel_rfl
    · kernel_rfl
    · kernel_rfl
    · exact fun _ _ _ h => h
    · (refine Or.inl ⟨by rfl, ?_⟩; intro w hSw; (try dsimp only at hSw); go_simp; try with_reducible rfl)
    · assumption
    simp only [Act.put, List.setIfInBounds_toArray, List.set_cons_zero, List.set_cons_succ]
    apply wpAnyH_take (i := 2)
    · rfl
    · kernel_rfl
    · kernel_rfl
    · kernel_rfl
    · exact fun _ _ _ h => h
    · (refine Or.inl ⟨by rfl, ?_⟩; intro w hSw; (try dsimp only at hSw); go_simp; try with_reducible rfl)
    · assumption
    simp only [Act.put, List.setIfInBounds_toArray, List.set_cons_zero, List.set_cons_succ]
    apply wpAnyH_take (i := 3)
    · rfl
    · kernel_rfl
    · kernel_rfl
    · kernel_rfl
    · exact fun _ _ _ h => h
    · (refine Or.inl ⟨by rfl, ?_⟩; intro w hSw; (try dsimp only at hSw); go_simp; try with_reducible rfl)
    · assumption
    simp only [Act.put, List.setIfInBounds_toArray, List.set_cons_zero, List.set_cons_succ]
    apply wpAnyH_take (i := 4)
    · rfl
    · kernel_rfl
    · kernel_rfl
    · kernel_rfl
    · exact fun _ _ _ h => h
    · (refine Or.inl ⟨by rfl, ?_⟩; intro w hSw; (try dsimp only at hSw); go_simp; try with_reducible rfl)
    · assumption
    simp only [Act.put, List.setIfInBounds_toArray, List.set_cons_zero, List.set_cons_succ]
    apply wpAnyH_take (i := 5)
    · rfl
    · kernel_rfl
    · kernel_rfl
    · kernel_rfl
    · exact fun _ _ _ h => h
    · (refine Or.inl ⟨by rfl, ?_⟩; intro w hSw; (try dsimp only at hSw); go_simp; try with_reducible rfl)
    · assumption
    simp only [Act.put, List.setIfInBounds_toArray, List.set_cons_zero, List.set_cons_succ]
    apply wpAnyH_take (i := 6)
    · rfl
    · kernel_rfl
    · kernel_rfl
    · kernel_rfl
    · exact fun _ _ _ h => h
    · (refine Or.inl ⟨by rfl, ?_⟩; intro w hSw; (try dsimp only at hSw); go_simp; try with_reducible rfl)
    · assumption
    simp only [Act.put, List.setIfInBounds_toArray, List.set_cons_zero, List.set_cons_succ]
    apply wpAnyH_take (i := 7)
    · rfl
    · kernel_rfl
    · kernel_rfl
    · kernel_rfl
    · exact fun _ _ _ h => h
    · (refine Or.inl ⟨by rfl, ?_⟩; intro w hSw; (try dsimp only at hSw); go_simp; try with_reducible rfl)
    · assumption
    simp only [Act.put, List.setIfInBounds_toArray, List.set_cons_zero, List.set_cons_succ]
    apply wpAnyH_take (i := 9)
    · rfl
    · kernel_rfl
    · kernel_rfl
    · kernel_rfl
    · exact fun _ _ _ h => h
    · (refine Or.inl ⟨by rfl, ?_⟩; intro w hSw; (try dsimp only at hSw); go_simp; try with_reducible rfl)
    · assumption
    simp only [Act.put, List.setIfInBounds_toArray, List.set_cons_zero, List.set_cons_succ]
    apply wpAnyH_take (i := 10)
    · rfl
    · kernel_rfl
    · kernel_rfl
    · kernel_rfl
    · exact fun _ _ _ h => h
    · (refine Or.inl ⟨by rfl, ?_⟩; intro w hSw; (try dsimp only at hSw); go_simp; try with_reducible rfl)
    · assumption
    simp only [Act.put, List.setIfInBounds_toArray, List.set_cons_zero, List.set_cons_succ]
    apply wpAnyH_take (i := 11)
    · rfl
    · kernel_rfl
    · kernel_rfl
    · kernel_rfl
    · exact fun _ _ _ h => h
    · (refine Or.inl ⟨by rfl, ?_⟩; intro w hSw; (try dsimp only at hSw); go_simp; try with_reducible rfl)
    · assumption
    simp only [Act.put, List.setIfInBounds_toArray, List.set_cons_zero, List.set_cons_succ]
    apply wpAnyH_take (i := 12)
    · rfl
    · kernel_rfl
    · kernel_rfl
    · kernel_rfl
    · exact fun _ _ _ h => h
    · (refine Or.inl ⟨by rfl, ?_⟩; intro w hSw; (try dsimp only at hSw); go_simp; try with_reducible rfl)
    · assumption
    simp only [Act.put, List.setIfInBounds_toArray, List.set_cons_zero, List.set_cons_succ]
    apply wpAnyH_take (i := 13)
    · rfl
    · kernel_rfl
    · kernel_rfl
    · kernel_rfl
    · exact fun _ _ _ h => h
    · (refine Or.inl ⟨by rfl, ?_⟩; intro w hSw; (try dsimp only at hSw); go_simp; try with_reducible rfl)
    · assumption
    simp only [Act.put, List.setIfInBounds_toArray, List.set_cons_zero, List.set_cons_succ]
    apply wpAnyH_take (i := 14)
    · rfl
    · kernel_rfl
    · kernel_rfl
    · kernel_rfl
    · exact fun _ _ _ h => h
    · (refine Or.inl ⟨by rfl, ?_⟩; intro w hSw; (try dsimp only at hSw); go_simp; try with_reducible rfl)
    · assumption
    simp only [Act.put, List.setIfInBounds_toArray, List.set_cons_zero, List.set_cons_succ]
    apply wpAnyH_take (i := 15)
    · rfl
    · kernel_rfl
    · kernel_rfl
    · kernel_rfl
    · exact fun _ _ _ h => h
    · (refine Or.inl ⟨by rfl, ?_⟩; intro w hSw; (try dsimp only at hSw); go_simp; try with_reducible rfl)
    · assumption
    simp only [Act.put, List.setIfInBounds_toArray, List.set_cons_zero, List.set_cons_succ]
    refine wpAnyH_ready (rs := [1]) (by kernel_rfl) (by simp) (AllReadyH.cons rfl (fun K hK => ?_) AllReadyH.nil)
    · skip
      go_simp
      refine hK.out _ _ ?_ (fun hHeld => ?_)
      · ((try dsimp only); first | exact SF.out _ ((Fr.refl _ w).alloc _).drew | exact SF.out _ G3.out | exact SF.out _ G1.out)
      · skip
        clear hK K
        (try simp only [Act.put, List.setIfInBounds_toArray, List.set_cons_zero, List.set_cons_succ])
        refine wpAnyH_ready (rs := [8]) (by kernel_rfl) (by simp) (AllReadyH.cons rfl (fun K hK => ?_) AllReadyH.nil)
        · skip
          refine step_append_15 (.tmp 5) (.tmp 11) (by rfl) (by rfl) (by rfl) (by rfl) (xs := []) (ys := rs.take i)
            OE.out (HS1.out _ ((Fr.refl _ w).alloc _).drew) (by rw [List.length_take, ← QT.out.len]; omega) (by omega) (by omega) ?_
          intro ao1 cap1 w5 n1 hn1 o1 f1 d1
          have g1 : Fr (Up w.heap.size) w w5 := (((Fr.refl _ w).alloc _).drew).then f1 (by rintro i hi ⟨x, hx, rfl⟩; cases hx; simp only [Up]; omega)
          have e1 : ∀ a, ao1 = some a → w.heap.size ≤ a.block := by
            intro a ha
            rcases d1 with h | h
            · rw [h] at ha; cases ha; simp only; omega
            · have h2 := h a ha; simp at h2; omega
          have G1 := Lib.hid g1
          have O1 := Lib.hid o1
          have E1 := Lib.hid e1
          clear g1 o1 e1 d1 f1
          refine hK.out _ _ ?_ (fun hHeld => ?_)
          · ((try dsimp only); first | exact SF.out _ ((Fr.refl _ w).alloc _).drew | exact SF.out _ G3.out | exact SF.out _ G1.out)
          · skip
            clear hK K
            (try simp only [Act.put, List.setIfInBounds_toArray, List.set_cons_zero, List.set_cons_succ])
            refine wpAnyH_ready (rs := [16]) (by kernel_rfl) (by simp) (AllReadyH.cons rfl (fun K hK => ?_) AllReadyH.nil)
            · skip
              refine step_append_15 (.tmp 12) (.tmp 19) (by rfl) (by rfl) (by rfl) (by rfl) (xs := [] ++ rs.take i) (ys := rs.drop (i + 1))
                O1.out (HS2.out _ G1.out) (by rw [List.length_drop, ← QT.out.len]) (by have := hn1.out; omega) (by omega) ?_
              intro ao3 cap3 w7 n3 hn3 o3 f3 d3
              have g3 : Fr (Up w.heap.size) w w7 := G1.out.then f3 (by rintro i hi ⟨x, hx, rfl⟩; exact E1.out x hx)
              have e3 : ∀ a, ao3 = some a → w.heap.size ≤ a.block := by
                intro a ha
                have hg := G1.out.size
                rcases d3 with h | h
                · exact E1.out a (by rw [← h]; exact ha)
                · have h2 := h a ha; omega
              have G3 := Lib.hid g3
              have O3 := Lib.hid o3
              have E3 := Lib.hid e3
              have hn4 : Hid (n3 = (rs.take i ++ rs.drop (i + 1)).length) := Lib.hid (by have h1 := hn1.out; have h3 := hn3.out; have h4 := QT.out.len; simp; omega)
              clear g3 o3 e3 d3 f3
              refine hK.out _ _ ?_ (fun hHeld => ?_)
              · ((try dsimp only); first | exact SF.out _ ((Fr.refl _ w).alloc _).drew | exact SF.out _ G3.out | exact SF.out _ G1.out)
              · skip
                clear hK K
                (try simp only [Act.put, List.setIfInBounds_toArray, List.set_cons_zero, List.set_cons_succ])
                apply wpAnyH_take (i := 17)
                · rfl
                · kernel_rfl
                · kernel_rfl
                · kernel_rfl
                · exact fun _ _ _ h => h
                · (refine Or.inl ⟨by rfl, ?_⟩; intro w hSw; (try dsimp only at hSw); go_simp; try with_reducible rfl)
                · assumption
                simp only [Act.put, List.setIfInBounds_toArray, List.set_cons_zero, List.set_cons_succ]
                apply wpAnyH_take (i := 18)
                · rfl
                · kernel_rfl
                · kernel_rfl
                · kernel_rfl
                · exact fun _ _ _ h => h
                · (refine Or.inl ⟨by rfl, ?_⟩; intro w hSw; (try dsimp only at hSw); go_simp; try with_reducible rfl)
                · assumption
                simp only [Act.put, List.setIfInBounds_toArray, List.set_cons_zero, List.set_cons_succ]
                refine wpAnyH_done (by kernel_rfl) ?_ _
                change Oper.wp _ _ _ _ _ _
                go_simp
                go_wp2_with fail
                all_goals go_end0
                all_goals exact put15_end QT.out G3.out O3.out E3.out hn4.out (fun e he => QT.out.ok e (by rcases List.mem_append.1 he with h | h; exact List.mem_of_mem_take h; exact List.mem_of_mem_drop h))
end Go.Proofs.YtgmaelndhmnjiaaDoor
