/- tunnel: which option is strange; accepts. -/
import Derived.Test.YthoppkklooomgaaTnQ
namespace Go.Proofs.Ythoppkklooomgaa
open Go.RowKit
set_option linter.unusedVariables false
set_option linter.unusedSimpArgs false
theorem u32_or_nat' (a b : Nat) (ha : a < 65536) (hb : b < 256) : bits .or .u32 ((a : Int) * 256) (b : Int) = ((a * 256 + b : Nat) : Int) := by
  have e1 : ((a : Int) * 256) = ((a * 256 : Nat) : Int) := by omega
  rw [e1, u32_or_nat _ _ (by omega) (by omega)]
  have : a * 256 ||| b = a * 256 + b := by
    rw [show a * 256 = 2 ^ 8 * a by omega, Nat.two_pow_add_eq_or_of_lt (show b < 2 ^ 8 by omega)]
  rw [this]

set_option maxRecDepth 100000 in
set_option maxHeartbeats 1600000 in
/-- Is an option strange to a tunnel? -/
theorem tnStrange_any {w : World} {xb eb : Nat} (hx : w.cell? ⟨xb, 0, none⟩ = some (.pointer (some ⟨eb, 0, none⟩))) {ko : Option Addr} {kn kc : Nat} {ks : List Nat} (hk : w.cell? ⟨eb, 6, none⟩ = some (.slice ko kn kc)) (hu : Us w ko kn kc ks) (o : Opt) (ho : o.cls < 65536) (bo : Option Addr) (bn bc : Nat) :
    Calls Try.prog 46 #[.agg #[.int .u16 (o.cls : Int), .int .u8 (o.typ.toNat : Int), .slice bo bn bc], .pointer (some ⟨xb, 0, none⟩)] w (CritOk w (strange ks o)) := by
  have f1 := (Fr.refl No w).alloc (.cells #[.int .u16 (o.cls : Int), .int .u8 (o.typ.toNat : Int), .slice bo bn bc] 38)
  have X1 := Lib.hid (heap_alloc_new w (.cells #[.int .u16 (o.cls : Int), .int .u8 (o.typ.toNat : Int), .slice bo bn bc] 38))
  have F1 := Lib.hid f1
  have HU := Lib.hid hu
  have k1 := Lib.hid (f1.cell hx (fun h => h))
  have k2 := Lib.hid (f1.cell hk (fun h => h))
  have htl := o.typ.toNat_lt
  have hor := u32_or_nat' o.cls o.typ.toNat ho htl
  have HOR : Hid (bits .or .u32 (IntKind.u32.wrap (IntKind.u32.wrap (o.cls : Int) * 256)) (IntKind.u32.wrap (o.typ.toNat : Int)) = (codeO o : Int)) := Lib.hid (by
    have e1 : IntKind.u32.wrap (o.cls : Int) = (o.cls : Int) := by rw [IntKind.wrap_u32]; omega
    have e2 : IntKind.u32.wrap ((o.cls : Int) * 256) = (o.cls : Int) * 256 := by rw [IntKind.wrap_u32]; omega
    have e3 : IntKind.u32.wrap (o.typ.toNat : Int) = (o.typ.toNat : Int) := by rw [IntKind.wrap_u32]; omega
    rw [e1, e2, e3]; exact hor)
  clear f1 hx hk hu hor
  go_enter Try.func46, Try.ntmps46
  go_wp2_with fail
  generalize w.alloc (.cells #[.int .u16 (o.cls : Int), .int .u8 (o.typ.toNat : Int), .slice bo bn bc] 38) = w1 at *
  have SF : Hid (∀ W, Fr No w1 W → (W.cell? ⟨w.heap.size, 0, none⟩ = some (.int .u16 (o.cls : Int)) ∧ W.cell? ⟨w.heap.size, 1, none⟩ = some (.int .u8 (o.typ.toNat : Int)) ∧ W.cell? ⟨w.heap.size, 2, none⟩ = some (.slice bo bn bc)) ∧ W.cell? ⟨xb, 0, none⟩ = some (.pointer (some ⟨eb, 0, none⟩)) ∧ W.cell? ⟨eb, 6, none⟩ = some (.slice ko kn kc)) := Lib.hid (fun W f =>
    ⟨cells3 (f.heap X1.out (fun h => h)), f.cell k1.out (fun h => h), f.cell k2.out (fun h => h)⟩)
  obtain ⟨⟨c0, c1, c2⟩, c3, c4⟩ := SF.out _ (Fr.refl _ _)
  obtain ⟨cr, hcr⟩ : ∃ cr, crit o.typ = cr := ⟨_, rfl⟩
  have HCR := Lib.hid hcr
  clear hcr
  cases cr
  · have HS : Hid (strange ks o = false) := Lib.hid (by unfold strange; rw [HCR.out]; rfl)
    refine wp_region_held_drew (S := (fun W => (W.cell? ⟨w.heap.size, 0, none⟩ = some (.int .u16 (o.cls : Int)) ∧ W.cell? ⟨w.heap.size, 1, none⟩ = some (.int .u8 (o.typ.toNat : Int)) ∧ W.cell? ⟨w.heap.size, 2, none⟩ = some (.slice bo bn bc)) ∧ W.cell? ⟨xb, 0, none⟩ = some (.pointer (some ⟨eb, 0, none⟩)) ∧ W.cell? ⟨eb, 6, none⟩ = some (.slice ko kn kc))) (by kernel_rfl) ?_ (fun hHeld => ?_)
    · ((try dsimp only); exact SF.out _ (Fr.refl _ _).drew)
    · skip
      change wpAnyH _ _ _ _ _ 20 #[false, false, false, false, false, false, false, false, false, false, false, false, false, false, false, false, false, false, false, false] _ _
      apply wpAnyH_take (i := 0)
      · (simp only [List.getElem?_toArray, List.getElem?_cons_succ, List.getElem?_cons_zero]; rfl)
      · kernel_rfl
      · kernel_rfl
      · kernel_rfl
      · exact fun _ _ _ h => h
      · (refine Or.inl ⟨by kernel_rfl, ?_⟩; intro w hSw; (try dsimp only at hSw); go_simp; try with_reducible rfl)
      · assumption
      simp only [Act.put, List.setIfInBounds_toArray, List.set_cons_zero, List.set_cons_succ]
      refine wpAnyH_ready (rs := [1]) (by kernel_rfl) (by simp) (AllReadyH.cons rfl (fun K hK => ?_) AllReadyH.nil)
      · skip
        change Oper.wp _ _ _ _ _ _
        go_simp
        ((with_reducible refine (critical_any _ _ _ rfl).mono ?_); rw [HCR.out]; rintro r w2 ⟨rfl, f2⟩; have F2 := Lib.hid (F1.out.drew.then_no f2); have FF2 := Lib.hid ((Fr.refl No w1).drew.then_no f2); clear f2)
        (try go_wp2_with fail)
        refine hK.out _ _ ?_ (fun hHeld => ?_)
        · ((try dsimp only); exact SF.out _ FF2.out)
        · skip
          clear hK K
          (try simp only [Act.put, List.setIfInBounds_toArray, List.set_cons_zero, List.set_cons_succ])
          apply wpAnyH_take (i := 2)
          · (simp only [List.getElem?_toArray, List.getElem?_cons_succ, List.getElem?_cons_zero]; rfl)
          · kernel_rfl
          · kernel_rfl
          · kernel_rfl
          · exact fun _ _ _ h => h
          · (refine Or.inl ⟨by kernel_rfl, ?_⟩; intro w hSw; (try dsimp only at hSw); go_simp; try with_reducible rfl)
          · assumption
          simp only [Act.put, List.setIfInBounds_toArray, List.set_cons_zero, List.set_cons_succ]
          apply wpAnyH_take (i := 3)
          · (simp only [List.getElem?_toArray, List.getElem?_cons_succ, List.getElem?_cons_zero]; rfl)
          · kernel_rfl
          · kernel_rfl
          · kernel_rfl
          · exact fun _ _ _ h => h
          · (refine Or.inr ⟨by kernel_rfl, ?_⟩; rfl)
          · assumption
          simp only [Act.put, List.setIfInBounds_toArray, List.set_cons_zero, List.set_cons_succ]
          apply wpAnyH_take (i := 4)
          · (simp only [List.getElem?_toArray, List.getElem?_cons_succ, List.getElem?_cons_zero]; rfl)
          · kernel_rfl
          · kernel_rfl
          · kernel_rfl
          · exact fun _ _ _ h => h
          · (refine Or.inr ⟨by kernel_rfl, ?_⟩; rfl)
          · assumption
          simp only [Act.put, List.setIfInBounds_toArray, List.set_cons_zero, List.set_cons_succ]
          apply wpAnyH_take (i := 5)
          · (simp only [List.getElem?_toArray, List.getElem?_cons_succ, List.getElem?_cons_zero]; rfl)
          · kernel_rfl
          · kernel_rfl
          · kernel_rfl
          · exact fun _ _ _ h => h
          · (refine Or.inr ⟨by kernel_rfl, ?_⟩; rfl)
          · assumption
          simp only [Act.put, List.setIfInBounds_toArray, List.set_cons_zero, List.set_cons_succ]
          apply wpAnyH_take (i := 6)
          · (simp only [List.getElem?_toArray, List.getElem?_cons_succ, List.getElem?_cons_zero]; rfl)
          · kernel_rfl
          · kernel_rfl
          · kernel_rfl
          · exact fun _ _ _ h => h
          · (refine Or.inr ⟨by kernel_rfl, ?_⟩; rfl)
          · assumption
          simp only [Act.put, List.setIfInBounds_toArray, List.set_cons_zero, List.set_cons_succ]
          apply wpAnyH_take (i := 7)
          · (simp only [List.getElem?_toArray, List.getElem?_cons_succ, List.getElem?_cons_zero]; rfl)
          · kernel_rfl
          · kernel_rfl
          · kernel_rfl
          · exact fun _ _ _ h => h
          · (refine Or.inr ⟨by kernel_rfl, ?_⟩; rfl)
          · assumption
          simp only [Act.put, List.setIfInBounds_toArray, List.set_cons_zero, List.set_cons_succ]
          apply wpAnyH_take (i := 8)
          · (simp only [List.getElem?_toArray, List.getElem?_cons_succ, List.getElem?_cons_zero]; rfl)
          · kernel_rfl
          · kernel_rfl
          · kernel_rfl
          · exact fun _ _ _ h => h
          · (refine Or.inr ⟨by kernel_rfl, ?_⟩; rfl)
          · assumption
          simp only [Act.put, List.setIfInBounds_toArray, List.set_cons_zero, List.set_cons_succ]
          apply wpAnyH_take (i := 9)
          · (simp only [List.getElem?_toArray, List.getElem?_cons_succ, List.getElem?_cons_zero]; rfl)
          · kernel_rfl
          · kernel_rfl
          · kernel_rfl
          · exact fun _ _ _ h => h
          · (refine Or.inr ⟨by kernel_rfl, ?_⟩; rfl)
          · assumption
          simp only [Act.put, List.setIfInBounds_toArray, List.set_cons_zero, List.set_cons_succ]
          apply wpAnyH_take (i := 10)
          · (simp only [List.getElem?_toArray, List.getElem?_cons_succ, List.getElem?_cons_zero]; rfl)
          · kernel_rfl
          · kernel_rfl
          · kernel_rfl
          · exact fun _ _ _ h => h
          · (refine Or.inr ⟨by kernel_rfl, ?_⟩; rfl)
          · assumption
          simp only [Act.put, List.setIfInBounds_toArray, List.set_cons_zero, List.set_cons_succ]
          apply wpAnyH_take (i := 11)
          · (simp only [List.getElem?_toArray, List.getElem?_cons_succ, List.getElem?_cons_zero]; rfl)
          · kernel_rfl
          · kernel_rfl
          · kernel_rfl
          · exact fun _ _ _ h => h
          · (refine Or.inr ⟨by kernel_rfl, ?_⟩; rfl)
          · assumption
          simp only [Act.put, List.setIfInBounds_toArray, List.set_cons_zero, List.set_cons_succ]
          apply wpAnyH_take (i := 12)
          · (simp only [List.getElem?_toArray, List.getElem?_cons_succ, List.getElem?_cons_zero]; rfl)
          · kernel_rfl
          · kernel_rfl
          · kernel_rfl
          · exact fun _ _ _ h => h
          · (refine Or.inr ⟨by kernel_rfl, ?_⟩; rfl)
          · assumption
          simp only [Act.put, List.setIfInBounds_toArray, List.set_cons_zero, List.set_cons_succ]
          apply wpAnyH_take (i := 13)
          · (simp only [List.getElem?_toArray, List.getElem?_cons_succ, List.getElem?_cons_zero]; rfl)
          · kernel_rfl
          · kernel_rfl
          · kernel_rfl
          · exact fun _ _ _ h => h
          · (refine Or.inr ⟨by kernel_rfl, ?_⟩; rfl)
          · assumption
          simp only [Act.put, List.setIfInBounds_toArray, List.set_cons_zero, List.set_cons_succ]
          apply wpAnyH_take (i := 14)
          · (simp only [List.getElem?_toArray, List.getElem?_cons_succ, List.getElem?_cons_zero]; rfl)
          · kernel_rfl
          · kernel_rfl
          · kernel_rfl
          · exact fun _ _ _ h => h
          · (refine Or.inr ⟨by kernel_rfl, ?_⟩; rfl)
          · assumption
          simp only [Act.put, List.setIfInBounds_toArray, List.set_cons_zero, List.set_cons_succ]
          apply wpAnyH_take (i := 15)
          · (simp only [List.getElem?_toArray, List.getElem?_cons_succ, List.getElem?_cons_zero]; rfl)
          · kernel_rfl
          · kernel_rfl
          · kernel_rfl
          · exact fun _ _ _ h => h
          · (refine Or.inr ⟨by kernel_rfl, ?_⟩; rfl)
          · assumption
          simp only [Act.put, List.setIfInBounds_toArray, List.set_cons_zero, List.set_cons_succ]
          apply wpAnyH_take (i := 16)
          · (simp only [List.getElem?_toArray, List.getElem?_cons_succ, List.getElem?_cons_zero]; rfl)
          · kernel_rfl
          · kernel_rfl
          · kernel_rfl
          · exact fun _ _ _ h => h
          · (refine Or.inr ⟨by kernel_rfl, ?_⟩; rfl)
          · assumption
          simp only [Act.put, List.setIfInBounds_toArray, List.set_cons_zero, List.set_cons_succ]
          apply wpAnyH_take (i := 17)
          · (simp only [List.getElem?_toArray, List.getElem?_cons_succ, List.getElem?_cons_zero]; rfl)
          · kernel_rfl
          · kernel_rfl
          · kernel_rfl
          · exact fun _ _ _ h => h
          · (refine Or.inr ⟨by kernel_rfl, ?_⟩; rfl)
          · assumption
          simp only [Act.put, List.setIfInBounds_toArray, List.set_cons_zero, List.set_cons_succ]
          apply wpAnyH_take (i := 18)
          · (simp only [List.getElem?_toArray, List.getElem?_cons_succ, List.getElem?_cons_zero]; rfl)
          · kernel_rfl
          · kernel_rfl
          · kernel_rfl
          · exact fun _ _ _ h => h
          · (refine Or.inl ⟨by kernel_rfl, ?_⟩; intro w hSw; (try dsimp only at hSw); go_simp; try with_reducible rfl)
          · assumption
          simp only [Act.put, List.setIfInBounds_toArray, List.set_cons_zero, List.set_cons_succ]
          apply wpAnyH_take (i := 19)
          · (simp only [List.getElem?_toArray, List.getElem?_cons_succ, List.getElem?_cons_zero]; rfl)
          · kernel_rfl
          · kernel_rfl
          · kernel_rfl
          · exact fun _ _ _ h => h
          · (refine Or.inl ⟨by kernel_rfl, ?_⟩; intro w hSw; (try dsimp only at hSw); go_simp; try with_reducible rfl)
          · assumption
          simp only [Act.put, List.setIfInBounds_toArray, List.set_cons_zero, List.set_cons_succ]
          refine wpAnyH_done (by kernel_rfl) ?_ _
          try go_wp2_with fail
          go_ret
          exact ⟨by rw [HS.out]; rfl, F2.out⟩
  · have HS : Hid (strange ks o = !hasU ks (codeO o)) := Lib.hid (by unfold strange; rw [HCR.out]; rfl)
    refine wp_region_held_drew (S := (fun W => (W.cell? ⟨w.heap.size, 0, none⟩ = some (.int .u16 (o.cls : Int)) ∧ W.cell? ⟨w.heap.size, 1, none⟩ = some (.int .u8 (o.typ.toNat : Int)) ∧ W.cell? ⟨w.heap.size, 2, none⟩ = some (.slice bo bn bc)) ∧ W.cell? ⟨xb, 0, none⟩ = some (.pointer (some ⟨eb, 0, none⟩)) ∧ W.cell? ⟨eb, 6, none⟩ = some (.slice ko kn kc))) (by kernel_rfl) ?_ (fun hHeld => ?_)
    · ((try dsimp only); exact SF.out _ (Fr.refl _ _).drew)
    · skip
      change wpAnyH _ _ _ _ _ 20 #[false, false, false, false, false, false, false, false, false, false, false, false, false, false, false, false, false, false, false, false] _ _
      apply wpAnyH_take (i := 0)
      · (simp only [List.getElem?_toArray, List.getElem?_cons_succ, List.getElem?_cons_zero]; rfl)
      · kernel_rfl
      · kernel_rfl
      · kernel_rfl
      · exact fun _ _ _ h => h
      · (refine Or.inl ⟨by kernel_rfl, ?_⟩; intro w hSw; (try dsimp only at hSw); go_simp; try with_reducible rfl)
      · assumption
      simp only [Act.put, List.setIfInBounds_toArray, List.set_cons_zero, List.set_cons_succ]
      refine wpAnyH_ready (rs := [1]) (by kernel_rfl) (by simp) (AllReadyH.cons rfl (fun K hK => ?_) AllReadyH.nil)
      · skip
        change Oper.wp _ _ _ _ _ _
        go_simp
        ((with_reducible refine (critical_any _ _ _ rfl).mono ?_); rw [HCR.out]; rintro r w2 ⟨rfl, f2⟩; have F2 := Lib.hid (F1.out.drew.then_no f2); have FF2 := Lib.hid ((Fr.refl No w1).drew.then_no f2); clear f2)
        (try go_wp2_with fail)
        refine hK.out _ _ ?_ (fun hHeld => ?_)
        · ((try dsimp only); exact SF.out _ FF2.out)
        · skip
          clear hK K
          (try simp only [Act.put, List.setIfInBounds_toArray, List.set_cons_zero, List.set_cons_succ])
          apply wpAnyH_take (i := 2)
          · (simp only [List.getElem?_toArray, List.getElem?_cons_succ, List.getElem?_cons_zero]; rfl)
          · kernel_rfl
          · kernel_rfl
          · kernel_rfl
          · exact fun _ _ _ h => h
          · (refine Or.inl ⟨by kernel_rfl, ?_⟩; intro w hSw; (try dsimp only at hSw); go_simp; try with_reducible rfl)
          · assumption
          simp only [Act.put, List.setIfInBounds_toArray, List.set_cons_zero, List.set_cons_succ]
          apply wpAnyH_take (i := 3)
          · (simp only [List.getElem?_toArray, List.getElem?_cons_succ, List.getElem?_cons_zero]; rfl)
          · kernel_rfl
          · kernel_rfl
          · kernel_rfl
          · exact fun _ _ _ h => h
          · (refine Or.inl ⟨by kernel_rfl, ?_⟩; intro w hSw; (try dsimp only at hSw); go_simp; try with_reducible rfl)
          · assumption
          simp only [Act.put, List.setIfInBounds_toArray, List.set_cons_zero, List.set_cons_succ]
          apply wpAnyH_take (i := 4)
          · (simp only [List.getElem?_toArray, List.getElem?_cons_succ, List.getElem?_cons_zero]; rfl)
          · kernel_rfl
          · kernel_rfl
          · kernel_rfl
          · exact fun _ _ _ h => h
          · (refine Or.inl ⟨by kernel_rfl, ?_⟩; intro w hSw; (try dsimp only at hSw); go_simp; try with_reducible rfl)
          · assumption
          simp only [Act.put, List.setIfInBounds_toArray, List.set_cons_zero, List.set_cons_succ]
          apply wpAnyH_take (i := 5)
          · (simp only [List.getElem?_toArray, List.getElem?_cons_succ, List.getElem?_cons_zero]; rfl)
          · kernel_rfl
          · kernel_rfl
          · kernel_rfl
          · exact fun _ _ _ h => h
          · (refine Or.inl ⟨by kernel_rfl, ?_⟩; intro w hSw; (try dsimp only at hSw); go_simp; try with_reducible rfl)
          · assumption
          simp only [Act.put, List.setIfInBounds_toArray, List.set_cons_zero, List.set_cons_succ]
          apply wpAnyH_take (i := 6)
          · (simp only [List.getElem?_toArray, List.getElem?_cons_succ, List.getElem?_cons_zero]; rfl)
          · kernel_rfl
          · kernel_rfl
          · kernel_rfl
          · exact fun _ _ _ h => h
          · (refine Or.inl ⟨by kernel_rfl, ?_⟩; intro w hSw; (try dsimp only at hSw); go_simp; try with_reducible rfl)
          · assumption
          simp only [Act.put, List.setIfInBounds_toArray, List.set_cons_zero, List.set_cons_succ]
          apply wpAnyH_take (i := 7)
          · (simp only [List.getElem?_toArray, List.getElem?_cons_succ, List.getElem?_cons_zero]; rfl)
          · kernel_rfl
          · kernel_rfl
          · kernel_rfl
          · exact fun _ _ _ h => h
          · (refine Or.inl ⟨by kernel_rfl, ?_⟩; intro w hSw; (try dsimp only at hSw); go_simp; try with_reducible rfl)
          · assumption
          simp only [Act.put, List.setIfInBounds_toArray, List.set_cons_zero, List.set_cons_succ]
          apply wpAnyH_take (i := 8)
          · (simp only [List.getElem?_toArray, List.getElem?_cons_succ, List.getElem?_cons_zero]; rfl)
          · kernel_rfl
          · kernel_rfl
          · kernel_rfl
          · exact fun _ _ _ h => h
          · (refine Or.inl ⟨by kernel_rfl, ?_⟩; intro w hSw; (try dsimp only at hSw); go_simp; try with_reducible rfl)
          · assumption
          simp only [Act.put, List.setIfInBounds_toArray, List.set_cons_zero, List.set_cons_succ]
          apply wpAnyH_take (i := 9)
          · (simp only [List.getElem?_toArray, List.getElem?_cons_succ, List.getElem?_cons_zero]; rfl)
          · kernel_rfl
          · kernel_rfl
          · kernel_rfl
          · exact fun _ _ _ h => h
          · (refine Or.inl ⟨by kernel_rfl, ?_⟩; intro w hSw; (try dsimp only at hSw); go_simp; try with_reducible rfl)
          · assumption
          simp only [Act.put, List.setIfInBounds_toArray, List.set_cons_zero, List.set_cons_succ]
          apply wpAnyH_take (i := 10)
          · (simp only [List.getElem?_toArray, List.getElem?_cons_succ, List.getElem?_cons_zero]; rfl)
          · kernel_rfl
          · kernel_rfl
          · kernel_rfl
          · exact fun _ _ _ h => h
          · (refine Or.inl ⟨by kernel_rfl, ?_⟩; intro w hSw; (try dsimp only at hSw); go_simp; try with_reducible rfl)
          · assumption
          simp only [Act.put, List.setIfInBounds_toArray, List.set_cons_zero, List.set_cons_succ]
          apply wpAnyH_take (i := 11)
          · (simp only [List.getElem?_toArray, List.getElem?_cons_succ, List.getElem?_cons_zero]; rfl)
          · kernel_rfl
          · kernel_rfl
          · kernel_rfl
          · exact fun _ _ _ h => h
          · (refine Or.inl ⟨by kernel_rfl, ?_⟩; intro w hSw; (try dsimp only at hSw); go_simp; try with_reducible rfl)
          · assumption
          simp only [Act.put, List.setIfInBounds_toArray, List.set_cons_zero, List.set_cons_succ]
          apply wpAnyH_take (i := 12)
          · (simp only [List.getElem?_toArray, List.getElem?_cons_succ, List.getElem?_cons_zero]; rfl)
          · kernel_rfl
          · kernel_rfl
          · kernel_rfl
          · exact fun _ _ _ h => h
          · (refine Or.inl ⟨by kernel_rfl, ?_⟩; intro w hSw; (try dsimp only at hSw); go_simp; try with_reducible rfl)
          · assumption
          simp only [Act.put, List.setIfInBounds_toArray, List.set_cons_zero, List.set_cons_succ]
          apply wpAnyH_take (i := 13)
          · (simp only [List.getElem?_toArray, List.getElem?_cons_succ, List.getElem?_cons_zero]; rfl)
          · kernel_rfl
          · kernel_rfl
          · kernel_rfl
          · exact fun _ _ _ h => h
          · (refine Or.inl ⟨by kernel_rfl, ?_⟩; intro w hSw; (try dsimp only at hSw); go_simp; try with_reducible rfl)
          · assumption
          simp only [Act.put, List.setIfInBounds_toArray, List.set_cons_zero, List.set_cons_succ]
          apply wpAnyH_take (i := 14)
          · (simp only [List.getElem?_toArray, List.getElem?_cons_succ, List.getElem?_cons_zero]; rfl)
          · kernel_rfl
          · kernel_rfl
          · kernel_rfl
          · exact fun _ _ _ h => h
          · (refine Or.inl ⟨by kernel_rfl, ?_⟩; intro w hSw; (try dsimp only at hSw); go_simp; try with_reducible rfl)
          · assumption
          simp only [Act.put, List.setIfInBounds_toArray, List.set_cons_zero, List.set_cons_succ]
          apply wpAnyH_take (i := 15)
          · (simp only [List.getElem?_toArray, List.getElem?_cons_succ, List.getElem?_cons_zero]; rfl)
          · kernel_rfl
          · kernel_rfl
          · kernel_rfl
          · exact fun _ _ _ h => h
          · (refine Or.inl ⟨by kernel_rfl, ?_⟩; intro w hSw; (try dsimp only at hSw); go_simp; try with_reducible rfl)
          · assumption
          simp only [Act.put, List.setIfInBounds_toArray, List.set_cons_zero, List.set_cons_succ]
          refine wpAnyH_ready (rs := [16]) (by kernel_rfl) (by simp) (AllReadyH.cons rfl (fun K hK => ?_) AllReadyH.nil)
          · skip
            change Oper.wp _ _ _ _ _ _
            go_simp
            rw [HOR.out]
            refine (containsU_any (HU.out.no F2.out) (codeO o)).mono ?_
            rintro r w3 ⟨rfl, rfl⟩
            (try go_wp2_with fail)
            refine hK.out _ _ ?_ (fun hHeld => ?_)
            · ((try dsimp only); exact SF.out _ FF2.out)
            · skip
              clear hK K
              (try simp only [Act.put, List.setIfInBounds_toArray, List.set_cons_zero, List.set_cons_succ])
              apply wpAnyH_take (i := 17)
              · (simp only [List.getElem?_toArray, List.getElem?_cons_succ, List.getElem?_cons_zero]; rfl)
              · kernel_rfl
              · kernel_rfl
              · kernel_rfl
              · exact fun _ _ _ h => h
              · (refine Or.inl ⟨by kernel_rfl, ?_⟩; intro w hSw; (try dsimp only at hSw); go_simp; try with_reducible rfl)
              · assumption
              simp only [Act.put, List.setIfInBounds_toArray, List.set_cons_zero, List.set_cons_succ]
              apply wpAnyH_take (i := 18)
              · (simp only [List.getElem?_toArray, List.getElem?_cons_succ, List.getElem?_cons_zero]; rfl)
              · kernel_rfl
              · kernel_rfl
              · kernel_rfl
              · exact fun _ _ _ h => h
              · (refine Or.inl ⟨by kernel_rfl, ?_⟩; intro w hSw; (try dsimp only at hSw); go_simp; try with_reducible rfl)
              · assumption
              simp only [Act.put, List.setIfInBounds_toArray, List.set_cons_zero, List.set_cons_succ]
              apply wpAnyH_take (i := 19)
              · (simp only [List.getElem?_toArray, List.getElem?_cons_succ, List.getElem?_cons_zero]; rfl)
              · kernel_rfl
              · kernel_rfl
              · kernel_rfl
              · exact fun _ _ _ h => h
              · (refine Or.inl ⟨by kernel_rfl, ?_⟩; intro w hSw; (try dsimp only at hSw); go_simp; try with_reducible rfl)
              · assumption
              simp only [Act.put, List.setIfInBounds_toArray, List.set_cons_zero, List.set_cons_succ]
              refine wpAnyH_done (by kernel_rfl) ?_ _
              try go_wp2_with fail
              go_ret
              exact ⟨by rw [HS.out]; rfl, F2.out⟩

theorem any_found {os : List Opt} {P : Opt → Bool} {k : Nat} {o : Opt} (h : os[k]? = some o) (hc : P o = true) : os.any P = true := List.any_eq_true.2 ⟨o, List.mem_of_getElem? h, hc⟩
theorem any_none {os : List Opt} {P : Opt → Bool} {k : Nat} (hk : os.length ≤ k) (h : ∀ i o, i < k → os[i]? = some o → P o = false) : os.any P = false := by
  apply Bool.eq_false_iff.2
  intro hc
  obtain ⟨o, ho, hcr⟩ := List.any_eq_true.1 hc
  obtain ⟨i, hi, rfl⟩ := List.getElem_of_mem ho
  have := h i _ (by omega) (List.getElem?_eq_getElem hi)
  rw [this] at hcr; cases hcr
set_option maxRecDepth 100000 in
set_option maxHeartbeats 800000 in
theorem indexS_any {w : World} {ao : Option Addr} {n cap : Nat} {os : List Opt} (h : Rs w ao n cap os) {xb eb : Nat} (hx : w.cell? ⟨xb, 0, none⟩ = some (.pointer (some ⟨eb, 0, none⟩))) {ko : Option Addr} {kn kc : Nat} {ks : List Nat} (hk : w.cell? ⟨eb, 6, none⟩ = some (.slice ko kn kc)) (hu : Us w ko kn kc ks) :
    Calls Try.prog 64 #[.slice ao n cap, .func (.func 46) #[] #[.pointer (some ⟨xb, 0, none⟩)]] w (IdxOk w (os.any (strange ks))) := by
  have hle := h.le
  have hcc := h.capLe
  have H := Lib.hid h
  have HX := Lib.hid hx
  have HKK := Lib.hid hk
  have HU := Lib.hid hu
  have hn := h.len
  have HN := Lib.hid hn
  clear h hn hx hk hu
  obtain ⟨P, hP⟩ : ∃ P : Opt → Bool, P = strange ks := ⟨_, rfl⟩
  have HPP := Lib.hid hP
  rw [← hP]
  clear hP
  go_enter Try.func64, Try.ntmps64
  go_wp2_with fail
  go_loopw [8] (fun t wr => ∃ k : Nat, t = .int .i64 k ∧ k ≤ n ∧ (∀ i o, i < k → os[i]? = some o → P o = false) ∧ Fr No w wr) (fun t _ => n - (intOf t).toNat)
  case atStart => exact ⟨0, rfl, by omega, by omega, Fr.refl _ _⟩
  case round =>
    obtain ⟨k, rfl, hk, hno, hf⟩ := hrel
    have F1 := Lib.hid hf
    have NO := Lib.hid hno
    clear hno
    by_cases hlt : k < n
    · obtain ⟨a, o, rfl, ho, ⟨bo, bc, h1, h2, h3, h4⟩, hcl⟩ := (H.out.no hf).get k hlt
      have HO := Lib.hid ho
      clear h4 ho hf
      obtain ⟨cr, hcr⟩ : ∃ cr, P o = cr := ⟨_, rfl⟩
      have HCR := Lib.hid hcr
      have HC : Hid (∀ W, Fr No wr W → Calls Try.prog 46 #[.agg #[.int .u16 (o.cls : Int), .int .u8 (o.typ.toNat : Int), .slice bo o.b.length bc], .pointer (some ⟨xb, 0, none⟩)] W (CritOk W cr)) := Lib.hid (fun W f => by
        have := tnStrange_any ((F1.out.trans f).cell HX.out (fun h => h)) ((F1.out.trans f).cell HKK.out (fun h => h)) (HU.out.no (F1.out.trans f)) o hcl bo o.b.length bc
        rw [← HPP.out, HCR.out] at this
        exact this)
      clear hcr
      cases cr with
      | true =>
        go_wp2_with (go_at_call 46; refine (HC.out _ (Fr.refl _ _)).mono ?_; rintro e w2 ⟨rfl, f2⟩; have F2 := Lib.hid (F1.out.then_no f2); clear f2)
        go_ret
        exact ⟨_, rfl, by rw [any_found HO.out HCR.out]; simp, F2.out⟩
      | false =>
        go_wp2_with (go_at_call 46; refine (HC.out _ (Fr.refl _ _)).mono ?_; rintro e w2 ⟨rfl, f2⟩; have F2 := Lib.hid (F1.out.then_no f2); clear f2)
        go_roundw
        case rel =>
          refine ⟨k + 1, by go_num, by omega, fun i o' hi ho' => ?_, F2.out⟩
          rcases Nat.lt_or_ge i k with h | h
          · exact NO.out i o' h ho'
          · obtain rfl : i = k := by omega
            rw [HO.out] at ho'; cases ho'; exact HCR.out
        case measure => simp [intOf]; omega
    · clear hf
      go_wp2_with fail
      go_ret
      exact ⟨_, rfl, by rw [any_none (k := k) (by rw [← HN.out]; omega) NO.out]; simp, F1.out⟩
theorem containsS_any {w : World} {ao : Option Addr} {n cap : Nat} {os : List Opt} (h : Rs w ao n cap os) {xb eb : Nat} (hx : w.cell? ⟨xb, 0, none⟩ = some (.pointer (some ⟨eb, 0, none⟩))) {ko : Option Addr} {kn kc : Nat} {ks : List Nat} (hk : w.cell? ⟨eb, 6, none⟩ = some (.slice ko kn kc)) (hu : Us w ko kn kc ks) {r : Bool} (hr : os.any (strange ks) = r) :
    Calls Try.prog 49 #[.slice ao n cap, .func (.func 46) #[] #[.pointer (some ⟨xb, 0, none⟩)]] w (CritOk w r) := by
  have HC := Lib.hid (indexS_any h hx hk hu)
  rw [hr] at HC
  clear h hx hk hu hr
  go_enter Try.func49, Try.ntmps49
  go_wp2_with (go_at_call 64; refine HC.out.mono ?_; rintro e w2 ⟨x, rfl, hr, f2⟩; have F2 := Lib.hid f2; clear f2)
  go_ret
  exact ⟨by rw [← hr]; rfl, F2.out⟩

/-- An error by its number; nil of 0. -/
def errV (n : Int) : Value := if n = 0 then .nilIface else .iface 32 (.int .i64 n)
def AcceptsOk (S : Nat → Prop) (w : World) (eb : Nat) (n : Int) (e' : TE) (r : Ending) (w' : World) : Prop :=
  r = .returned (errV n) ∧ Fr (Is eb) w w' ∧ ∃ m', EnAt' (fun k => S k ∨ (w.heap.size ≤ k ∧ k < w'.heap.size)) w' eb e' m'
end Go.Proofs.Ythoppkklooomgaa