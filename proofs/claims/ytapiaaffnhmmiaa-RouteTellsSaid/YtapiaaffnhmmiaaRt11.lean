/- the reference's routes: Add in one, Del, Find. -/
import Derived.Test.YtapiaaffnhmmiaaRt10
namespace Go.Proofs.Ytapiaaffnhmmiaa
open Go.RowKit
set_option linter.unusedVariables false
set_option linter.unusedSimpArgs false

theorem r8Add_any {w : World} {rb n cap : Nat} {ao : Option Addr} {rs : List Rt} (h : R8 w rb ao n cap rs) {r : Rt} (hr : r.ok) (hl : rs.length ≤ 64) :
    Calls Try.prog 11 #[.pointer (some ⟨rb, 0, none⟩), evR r] w (AddP8 w rb ao rs r) := by
  by_cases hv : valid8 r
  · exact r8Add_in h hr hv hl
  · exact r8Add_arg h hr hv

/-- What Del does to the row. -/
def DelR (rs : List Rt) (d b : Int) (c : Int) (rs' : List Rt) : Prop :=
  ((∀ y ∈ rs, ¬ (y.dst = d ∧ y.bits = b)) ∧ c = 6 ∧ rs' = rs) ∨ (∃ (i : Nat) (y : Rt), rs[i]? = some y ∧ y.dst = d ∧ y.bits = b ∧ c = 0 ∧ rs' = rs.take i ++ rs.drop (i + 1))
def DelP8 (w : World) (rb : Nat) (ao : Option Addr) (rs : List Rt) (d b : Int) (e : Ending) (w' : World) : Prop :=
  ∃ (ao' : Option Addr) (n' cap' : Nat) (rs' : List Rt) (c : Int), e = .returned (.int .i64 c) ∧ DelR rs d b c rs' ∧ R8 w' rb ao' n' cap' rs' ∧ (ao' = ao ∨ ∀ a, ao' = some a → w.heap.size ≤ a.block) ∧ Fr (S8 rb ao) w w'
theorem del_end {w w7 : World} {rb n cap n3 cap3 : Nat} {ao ao3 : Option Addr} {rs rs' : List Rt} {d b : Int} (QT : R8 w rb ao n cap rs)
    (G3 : Fr (Up w.heap.size) w w7) (O3 : Own w7 36 4 ao3 n3 cap3 (rs'.flatMap encR)) (E3 : ∀ a, ao3 = some a → w.heap.size ≤ a.block)
    (hn : n3 = rs'.length) (HA : DelR rs d b 0 rs') :
    DelP8 w rb ao rs d b (.returned (.int .i64 0)) (w7.setCell ⟨rb, 0, none⟩ (.slice ao3 n3 cap3)) := by
  have hrb : rb < w.heap.size := lt_of_heap QT.box
  have h1 := G3.heap QT.box (by simp only [Up]; omega)
  have hl := G3.size
  have f1 : Fr (S8 rb ao) w (w7.setCell ⟨rb, 0, none⟩ (.slice ao3 n3 cap3)) := (G3.mono (fun i hi (h : w.heap.size ≤ i) => absurd hi (by omega))).setCell (.inl (.inl rfl)) _
  refine ⟨ao3, n3, cap3, _, 0, rfl, HA, ⟨one_setCell h1, hn, ?_, fun a ha => by have := E3 a ha; omega⟩, .inr E3, f1⟩
  exact O3.fr (S := Is rb) ((Fr.refl (Is rb) w7).setCell (p := ⟨rb, 0, none⟩) (.inl rfl) _) (fun a ha (h : a.block = rb) => by have := E3 a ha; omega)

set_option maxRecDepth 100000 in
set_option maxHeartbeats 2000000 in
theorem r8Del_any {w : World} {rb n cap : Nat} {ao : Option Addr} {rs : List Rt} (h : R8 w rb ao n cap rs) (d b : Int) (hl : rs.length ≤ 64) :
    Calls Try.prog 13 #[.pointer (some ⟨rb, 0, none⟩), .int .u32 d, .int .i64 b] w (DelP8 w rb ao rs d b) := by
  have hrl := lt_of_heap h.box
  have hc1 := h.own.le
  have hc2 := h.own.capLe
  have hn64 : n ≤ 64 := by rw [h.len]; exact hl
  have QT := Lib.hid h
  clear h
  go_enter Try.func13, Try.ntmps13
  go_wp2_with fail
  refine (r8find_any QT.out d b).mono ?_
  rintro e w2 ⟨⟨z, rfl, hz⟩, rfl⟩
  rcases hz with ⟨rfl, hno⟩ | ⟨i, y, rfl, hy, hy1, hy2⟩
  · have HNO := Lib.hid hno
    clear hno
    go_wp2_with fail
    go_ret
    exact ⟨ao, n, cap, rs, 6, rfl, .inl ⟨HNO.out, rfl, rfl⟩, QT.out, .inl rfl, Fr.refl _ _⟩
  · have hin : i < n := by have := QT.out.len; have := (List.getElem?_eq_some_iff.1 hy).1; omega
    have HA := Lib.hid (show DelR rs d b 0 (rs.take i ++ rs.drop (i + 1)) from .inr ⟨i, y, hy, hy1, hy2, rfl, rfl⟩)
    clear hy hy1 hy2
    have hi0 : (0 : Int) ≤ (i : Int) := by omega
    have hi1 : (i : Int) < (n : Int) := by omega
    have hi2 : (i : Int) ≤ (cap : Int) := by omega
    have hi3 : (i : Int) ≤ (n : Int) := by omega
    have hi4 : (i : Int) + 1 ≤ (n : Int) := by omega
    have hi5 : (0 : Int) ≤ (i : Int) + 1 := by omega
    have hi6 : (n : Int) ≤ (cap : Int) := by omega
    have hi7 : ¬ (i : Int) < 0 := by omega
    have hw1 : IntKind.i64.wrap ((i : Int) + 1) = (i : Int) + 1 := by rw [IntKind.wrap_i64]; omega
    have hw2 : ((i : Int) + 1).toNat = i + 1 := by omega
    have hk := Nat.le_of_lt hin
    have hk1 : i + 1 ≤ n := hin
    cases ao with
    | none => exfalso; have := QT.out.own.nocap rfl; omega
    | some g =>
      obtain ⟨hg0, -⟩ := QT.out.own.row g rfl
      have hgl := QT.out.own.lt g rfl
      obtain ⟨gb, goff, gsp⟩ := g
      cases hg0
      have HS1 : Hid (∀ W, Fr (Up w.heap.size) w W → Sl W (some ⟨gb, 0, none⟩) i cap ((rs.take i).flatMap encR)) := Lib.hid (fun W f => (QT.out.own.sl.upto hk).fr f (fun a ha => by cases ha; simp only [Up]; simp only at hgl; omega))
      have HS2 : Hid (∀ W, Fr (Up w.heap.size) w W → Sl W (if cap = i + 1 then some ⟨gb, 0, none⟩ else some ⟨gb, (i + 1) * 4, none⟩) (n - (i + 1)) (cap - (i + 1)) ((rs.drop (i + 1)).flatMap encR)) := Lib.hid (fun W f => (Sl.from QT.out.len QT.out.own.sl hk1).fr f (fun a ha => by split at ha <;> cases ha <;> simp only [Up] <;> simp only at hgl <;> omega))
      have OE := Lib.hid ((Own.made (w := w) (e := 36) (size := 4) #[] 0 rfl (by decide)).no (Fr.refl No _).drew)
      have SF : Hid (∀ w', Fr (Up w.heap.size) w w' → w'.cell? ⟨rb, 0, none⟩ = some (.slice (some ⟨gb, 0, none⟩) n cap) ∧ w'.frozen? ⟨rb, 0, none⟩ = false) := Lib.hid (by
        intro w' f
        have h1 := f.heap QT.out.box (by simp only [Up]; omega)
        exact ⟨cell_box h1, frozen_of_row w' rb 0 _ _ h1⟩)
      go_wp2_with fail
      refine wp_region_tail (S := (fun w' => w'.cell? ⟨rb, 0, none⟩ = some (.slice (some ⟨gb, 0, none⟩) n cap) ∧ w'.frozen? ⟨rb, 0, none⟩ = false)) rfl (by kernel_rfl) (by kernel_rfl) ?_ (fun hHeld => ?_)
      · ((try dsimp only); exact SF.out _ (Fr.refl _ w).drew)
      · skip
        simp only [List.dropLast_cons_cons, List.dropLast_singleton, List.length_cons, List.length_nil, Nat.zero_add, Nat.reduceAdd, List.replicate]
        apply wpAnyH_take (i := 0)
        · rfl
        · kernel_rfl
        · kernel_rfl
        · kernel_rfl
        · exact fun _ _ _ h => h
        · (refine Or.inl ⟨by rfl, ?_⟩; intro w hSw; (try dsimp only at hSw); go_simp; try with_reducible rfl)
        · assumption
        simp only [Act.put, List.setIfInBounds_toArray, List.set_cons_zero, List.set_cons_succ]
        apply wpAnyH_take (i := 2)
        · rfl
        · kernel_rfl
        · kernel_rfl
        · kernel_rfl
        · exact fun _ _ _ h => h
        · (refine Or.inl ⟨by rfl, ?_⟩; intro w hSw; (try dsimp only at hSw); go_simp; try with_reducible rfl)
        · assumption
        simp only [Act.put, List.setIfInBounds_toArray, List.set_cons_zero, List.set_cons_succ]
        apply wpAnyH_take (i := 3)
        · rfl
        · kernel_rfl
        · kernel_rfl
        · kernel_rfl
        · exact fun _ _ _ h => h
        · (refine Or.inl ⟨by rfl, ?_⟩; intro w hSw; (try dsimp only at hSw); go_simp; try with_reducible rfl)
        · assumption
        simp only [Act.put, List.setIfInBounds_toArray, List.set_cons_zero, List.set_cons_succ]
        apply wpAnyH_take (i := 4)
        · rfl
        · kernel_rfl
        · kernel_rfl
        · kernel_rfl
        · exact fun _ _ _ h => h
        · (refine Or.inl ⟨by rfl, ?_⟩; intro w hSw; (try dsimp only at hSw); go_simp; try with_reducible rfl)
        · assumption
        simp only [Act.put, List.setIfInBounds_toArray, List.set_cons_zero, List.set_cons_succ]
        apply wpAnyH_take (i := 5)
        · rfl
        · kernel_rfl
        · kernel_rfl
        · kernel_rfl
        · exact fun _ _ _ h => h
        · (refine Or.inl ⟨by rfl, ?_⟩; intro w hSw; (try dsimp only at hSw); go_simp; try with_reducible rfl)
        · assumption
        simp only [Act.put, List.setIfInBounds_toArray, List.set_cons_zero, List.set_cons_succ]
        apply wpAnyH_take (i := 6)
        · rfl
        · kernel_rfl
        · kernel_rfl
        · kernel_rfl
        · exact fun _ _ _ h => h
        · (refine Or.inl ⟨by rfl, ?_⟩; intro w hSw; (try dsimp only at hSw); go_simp; try with_reducible rfl)
        · assumption
        simp only [Act.put, List.setIfInBounds_toArray, List.set_cons_zero, List.set_cons_succ]
        apply wpAnyH_take (i := 7)
        · rfl
        · kernel_rfl
        · kernel_rfl
        · kernel_rfl
        · exact fun _ _ _ h => h
        · (refine Or.inl ⟨by rfl, ?_⟩; intro w hSw; (try dsimp only at hSw); go_simp; try with_reducible rfl)
        · assumption
        simp only [Act.put, List.setIfInBounds_toArray, List.set_cons_zero, List.set_cons_succ]
        apply wpAnyH_take (i := 9)
        · rfl
        · kernel_rfl
        · kernel_rfl
        · kernel_rfl
        · exact fun _ _ _ h => h
        · (refine Or.inl ⟨by rfl, ?_⟩; intro w hSw; (try dsimp only at hSw); go_simp; try with_reducible rfl)
        · assumption
        simp only [Act.put, List.setIfInBounds_toArray, List.set_cons_zero, List.set_cons_succ]
        apply wpAnyH_take (i := 10)
        · rfl
        · kernel_rfl
        · kernel_rfl
        · kernel_rfl
        · exact fun _ _ _ h => h
        · (refine Or.inl ⟨by rfl, ?_⟩; intro w hSw; (try dsimp only at hSw); go_simp; try with_reducible rfl)
        · assumption
        simp only [Act.put, List.setIfInBounds_toArray, List.set_cons_zero, List.set_cons_succ]
        apply wpAnyH_take (i := 11)
        · rfl
        · kernel_rfl
        · kernel_rfl
        · kernel_rfl
        · exact fun _ _ _ h => h
        · (refine Or.inl ⟨by rfl, ?_⟩; intro w hSw; (try dsimp only at hSw); go_simp; try with_reducible rfl)
        · assumption
        simp only [Act.put, List.setIfInBounds_toArray, List.set_cons_zero, List.set_cons_succ]
        apply wpAnyH_take (i := 12)
        · rfl
        · kernel_rfl
        · kernel_rfl
        · kernel_rfl
        · exact fun _ _ _ h => h
        · (refine Or.inl ⟨by rfl, ?_⟩; intro w hSw; (try dsimp only at hSw); go_simp; try with_reducible rfl)
        · assumption
        simp only [Act.put, List.setIfInBounds_toArray, List.set_cons_zero, List.set_cons_succ]
        apply wpAnyH_take (i := 13)
        · rfl
        · kernel_rfl
        · kernel_rfl
        · kernel_rfl
        · exact fun _ _ _ h => h
        · (refine Or.inl ⟨by rfl, ?_⟩; intro w hSw; (try dsimp only at hSw); go_simp; try with_reducible rfl)
        · assumption
        simp only [Act.put, List.setIfInBounds_toArray, List.set_cons_zero, List.set_cons_succ]
        apply wpAnyH_take (i := 14)
        · rfl
        · kernel_rfl
        · kernel_rfl
        · kernel_rfl
        · exact fun _ _ _ h => h
        · (refine Or.inl ⟨by rfl, ?_⟩; intro w hSw; (try dsimp only at hSw); go_simp; try with_reducible rfl)
        · assumption
        simp only [Act.put, List.setIfInBounds_toArray, List.set_cons_zero, List.set_cons_succ]
        apply wpAnyH_take (i := 15)
        · rfl
        · kernel_rfl
        · kernel_rfl
        · kernel_rfl
        · exact fun _ _ _ h => h
        · (refine Or.inl ⟨by rfl, ?_⟩; intro w hSw; (try dsimp only at hSw); go_simp; try with_reducible rfl)
        · assumption
        simp only [Act.put, List.setIfInBounds_toArray, List.set_cons_zero, List.set_cons_succ]
        refine wpAnyH_ready (rs := [1]) (by kernel_rfl) (by simp) (AllReadyH.cons rfl (fun K hK => ?_) AllReadyH.nil)
        · skip
          go_simp
          refine hK.out _ _ ?_ (fun hHeld => ?_)
          · ((try dsimp only); first | exact SF.out _ ((Fr.refl _ w).alloc _).drew | exact SF.out _ G3.out | exact SF.out _ G1.out)
          · skip
            clear hK K
            (try simp only [Act.put, List.setIfInBounds_toArray, List.set_cons_zero, List.set_cons_succ])
            refine wpAnyH_ready (rs := [8]) (by kernel_rfl) (by simp) (AllReadyH.cons rfl (fun K hK => ?_) AllReadyH.nil)
            · skip
              refine step_append_r8 (.tmp 15) (.tmp 21) (by rfl) (by rfl) (by rfl) (by rfl) (xs := []) (ys := rs.take i)
                OE.out (HS1.out _ ((Fr.refl _ w).alloc _).drew) (by rw [List.length_take, ← QT.out.len]; omega) (by omega) (by omega) ?_
              intro ao1 cap1 w5 n1 hn1 o1 f1 d1
              have g1 : Fr (Up w.heap.size) w w5 := (((Fr.refl _ w).alloc _).drew).then f1 (by rintro i hi ⟨x, hx, rfl⟩; cases hx; simp only [Up]; omega)
              have e1 : ∀ a, ao1 = some a → w.heap.size ≤ a.block := by
                intro a ha
                rcases d1 with h | h
                · rw [h] at ha; cases ha; simp only; omega
                · have h2 := h a ha; simp at h2; omega
              have G1 := Lib.hid g1
              have O1 := Lib.hid o1
              have E1 := Lib.hid e1
              clear g1 o1 e1 d1 f1
              refine hK.out _ _ ?_ (fun hHeld => ?_)
              · ((try dsimp only); first | exact SF.out _ ((Fr.refl _ w).alloc _).drew | exact SF.out _ G3.out | exact SF.out _ G1.out)
              · skip
                clear hK K
                (try simp only [Act.put, List.setIfInBounds_toArray, List.set_cons_zero, List.set_cons_succ])
                refine wpAnyH_ready (rs := [16]) (by kernel_rfl) (by simp) (AllReadyH.cons rfl (fun K hK => ?_) AllReadyH.nil)
                · skip
                  refine step_append_r8 (.tmp 22) (.tmp 29) (by rfl) (by rfl) (by rfl) (by rfl) (xs := [] ++ rs.take i) (ys := rs.drop (i + 1))
                    O1.out (HS2.out _ G1.out) (by rw [List.length_drop, ← QT.out.len]) (by have := hn1.out; omega) (by omega) ?_
                  intro ao3 cap3 w7 n3 hn3 o3 f3 d3
                  have g3 : Fr (Up w.heap.size) w w7 := G1.out.then f3 (by rintro i hi ⟨x, hx, rfl⟩; exact E1.out x hx)
                  have e3 : ∀ a, ao3 = some a → w.heap.size ≤ a.block := by
                    intro a ha
                    have hg := G1.out.size
                    rcases d3 with h | h
                    · exact E1.out a (by rw [← h]; exact ha)
                    · have h2 := h a ha; omega
                  have G3 := Lib.hid g3
                  have O3 := Lib.hid o3
                  have E3 := Lib.hid e3
                  have hn4 : Hid (n3 = (rs.take i ++ rs.drop (i + 1)).length) := Lib.hid (by have h1 := hn1.out; have h3 := hn3.out; have h4 := QT.out.len; simp; omega)
                  clear g3 o3 e3 d3 f3
                  refine hK.out _ _ ?_ (fun hHeld => ?_)
                  · ((try dsimp only); first | exact SF.out _ ((Fr.refl _ w).alloc _).drew | exact SF.out _ G3.out | exact SF.out _ G1.out)
                  · skip
                    clear hK K
                    (try simp only [Act.put, List.setIfInBounds_toArray, List.set_cons_zero, List.set_cons_succ])
                    apply wpAnyH_take (i := 17)
                    · rfl
                    · kernel_rfl
                    · kernel_rfl
                    · kernel_rfl
                    · exact fun _ _ _ h => h
                    · (refine Or.inl ⟨by rfl, ?_⟩; intro w hSw; (try dsimp only at hSw); go_simp; try with_reducible rfl)
                    · assumption
                    simp only [Act.put, List.setIfInBounds_toArray, List.set_cons_zero, List.set_cons_succ]
                    apply wpAnyH_take (i := 18)
                    · rfl
                    · kernel_rfl
                    · kernel_rfl
                    · kernel_rfl
                    · exact fun _ _ _ h => h
                    · (refine Or.inl ⟨by rfl, ?_⟩; intro w hSw; (try dsimp only at hSw); go_simp; try with_reducible rfl)
                    · assumption
                    simp only [Act.put, List.setIfInBounds_toArray, List.set_cons_zero, List.set_cons_succ]
                    refine wpAnyH_done (by kernel_rfl) ?_ _
                    change Oper.wp _ _ _ _ _ _
                    go_simp
                    go_wp2_with fail
                    all_goals go_ret
                    all_goals exact del_end QT.out G3.out O3.out E3.out hn4.out HA.out

/-- The reference's search. -/
def step8 (ip : Int) (acc : Option Rt) (r : Rt) : Option Rt := if cutN ip r.bits = r.dst ∧ (acc.isSome = false ∨ (acc.getD ⟨0, 0, 0, 0⟩).bits < r.bits) then some r else acc
def best8 (ip : Int) (rs : List Rt) : Option Rt := rs.foldl (step8 ip) none
theorem best8_snoc (ip : Int) (rs : List Rt) (r : Rt) : best8 ip (rs ++ [r]) = step8 ip (best8 ip rs) r := by simp [best8]
end Go.Proofs.Ytapiaaffnhmmiaa
