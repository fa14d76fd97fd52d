/- TunnelBack: the walk. -/
import Derived.Test.YthoppkklooomgaaTnBk
import Derived.Test.YthoppkklooomgaaLiftTn
import Derived.Test.YthoppkklooomgaaRegTail
namespace Go.Proofs.Ythoppkklooomgaa
open Go.RowKit
set_option linter.unusedVariables false
set_option linter.unusedSimpArgs false
theorem step_append_u {w : World} {ops : Array Oper} {o : Oper} {a : Act} {K : Act → World → Prop} {Q : Exit → Act → World → Prop} {E : Prop} (s x : Operand)
    (hgd : o.guard = none) (hop : o.op = .call { callee := .builtin .append, args := #[s, x], argTypes := #[25, 25] })
    {ao : Option Addr} {n cap : Nat} (hev : a.eval s = .slice ao n cap) {bo : Option Addr} {m c : Nat} (hex : a.eval x = .slice bo m c)
    {xs ys : List Nat} (h1 : OU w ao n cap xs) (h2 : Us w bo m c ys) (hb : n + m ≤ mostU)
    (hK : ∀ ao' cap' w' n', Hid (n' = n + m) → OU w' ao' n' cap' (xs ++ ys) → Fr (At ao) w w' → (ao' = ao ∨ ∀ a, ao' = some a → w.heap.size ≤ a.block) → K (a.put o.dst (.slice ao' n' cap')) w') :
    if Region.wanted o (yielded ops a.tmps) = true then Oper.wp Try.prog o a w K Q else E := by
  have hw : Region.wanted o (yielded ops a.tmps) = true := by simp [Region.wanted, hgd]
  rw [if_pos hw]
  unfold mostU at hb
  obtain ⟨i0, hi, hz0, hz1, hz2⟩ := info_parts info_u32
  obtain ⟨ao', cap', w', hrun, r1, r2, r3, r4, r5⟩ := run_append_U (P := Try.prog) w 25 o.type 22 i0 (.int .u32 0) 1 4 Try.underlying25 hi hz0 hz1 hz2 rfl (by decide) ao n cap _ h1.2 bo m c _ h2.2 (by rw [u32L_length, h2.1]; omega) (u32L_one ys) (by omega) (by omega)
  unfold Oper.wp
  simp [execOp, hop, resolve, invoke, builtin, hev, hex, hrun, Result.andThen]
  exact hK ao' cap' w' _ (Lib.hid rfl) ⟨by rw [h1.1, h2.1]; simp, by rw [u32L, List.map_append]; exact r1⟩ r2 r3
theorem takeO {ks : List Opt} {i : Nat} {x : Opt} (h : ks[i]? = some x) : ks.take (i + 1) = ks.take i ++ [x] := by
  rw [List.take_add_one, h]; rfl
def BackOk (w : World) (e : Ending) (w' : World) : Prop := e = .returned (.bool true) ∧ Fr No w w'
set_option maxRecDepth 100000 in
set_option maxHeartbeats 6400000 in
theorem TunnelBack_walk {w : World} {t : Tn} {oo : Option Addr} {on oc : Nat} {ko : Option Addr} {kn kc : Nat} (ht : TnRd w t oo on oc ko kn kc) {fo : Option Addr} {fn fc : Nat} (hf : Fss w fo fn fc) :
    Calls Try.prog 3 #[.agg #[.int .i64 t.kind, .int .u32 (t.loc : Int), .int .u32 (t.pee : Int), .int .u32 (t.id : Int), .int .i64 t.seg, .slice oo on oc, .slice ko kn kc, .bool t.sum, .bool t.seq], .slice fo fn fc] w (BackOk w) := by
  have HR := Lib.hid ht
  have HF := Lib.hid hf
  have hf1 := hf.le
  have hf2 := hf.capLe
  have ho1 := ht.os.le
  have ho2 := ht.os.capLe
  have ho3 := ht.om
  have hoc := ht.os.cls
  have HOC := Lib.hid hoc
  have HOK := Lib.hid ht.ok
  have X0 := Lib.hid (heap_alloc_new w (.cells #[.int .i64 t.kind, .int .u32 (t.loc : Int), .int .u32 (t.pee : Int), .int .u32 (t.id : Int), .int .i64 t.seg, .slice oo on oc, .slice ko kn kc, .bool t.sum, .bool t.seq] 27))
  have F0 := Lib.hid ((Fr.refl No w).alloc (.cells #[.int .i64 t.kind, .int .u32 (t.loc : Int), .int .u32 (t.pee : Int), .int .u32 (t.id : Int), .int .i64 t.seg, .slice oo on oc, .slice ko kn kc, .bool t.sum, .bool t.seq] 27))
  have hq0 : w.heap.size < (w.alloc (.cells #[.int .i64 t.kind, .int .u32 (t.loc : Int), .int .u32 (t.pee : Int), .int .u32 (t.id : Int), .int .i64 t.seg, .slice oo on oc, .slice ko kn kc, .bool t.sum, .bool t.seq] 27)).heap.size := by simp
  clear ht hf hoc
  go_enter Try.func3, Try.ntmps3
  go_wp2_with fail
  generalize w.alloc (.cells #[.int .i64 t.kind, .int .u32 (t.loc : Int), .int .u32 (t.pee : Int), .int .u32 (t.id : Int), .int .i64 t.seg, .slice oo on oc, .slice ko kn kc, .bool t.sum, .bool t.seq] 27) = w0 at *
  obtain ⟨tq, htq⟩ : ∃ tq, tq = w.heap.size := ⟨_, rfl⟩
  rw [← htq] at X0 ⊢
  have tq0 : w.heap.size ≤ tq := by omega
  have tq1 : tq < w0.heap.size := by omega
  clear htq hq0
  refine (shown14_any w0).mono ?_
  rintro r w1 ⟨rfl, f1⟩
  have F1 := Lib.hid (F0.out.trans f1)
  have X1 := Lib.hid (f1.heap X0.out (fun h => h))
  have hs1 := f1.size
  clear f1 X0 F0
  go_wp2_with fail
  refine (tnNew_any w1).mono ?_
  rintro r w2 ⟨ta, SA, rfl, h2, f2, n2⟩
  have HA := Lib.hid h2
  have NA := Lib.hid (show NewS (tq + 1) SA from fun k hk => by have := n2 k hk; omega)
  have F2 := Lib.hid (F1.out.trans f2)
  have X2 := Lib.hid (f2.heap X1.out (fun h => h))
  have hs2 := f2.size
  clear h2 f2 n2 F1 X1
  go_wp2_with fail
  refine (tnNew_any w2).mono ?_
  rintro r w3 ⟨tb, SB, rfl, h3, f3, n3⟩
  have HT := Lib.hid (show Two SA SB w3 ta tb ⟨[], 0⟩ ⟨[], 0⟩ from ⟨HA.out.no f3, h3, fun k ha hb => by have := HA.out.lt k ha; have := n3 k hb; omega⟩)
  have NB := Lib.hid (show NewS (tq + 1) SB from fun k hk => by have := n3 k hk; omega)
  have F3 := Lib.hid (F2.out.trans f3)
  have X3 := Lib.hid (f3.heap X2.out (fun h => h))
  have hs3 := f3.size
  clear h3 f3 n3 F2 X2 HA
  have hw3 : tq + 1 ≤ w3.heap.size := by omega
  have NS0 : ∀ S, NewS (tq + 1) S → NewS w.heap.size S := fun S h k hk => by have := h k hk; omega
  have NS1 := Lib.hid NS0
  clear NS0 hs1 hs2 hs3
  obtain ⟨c0, c1, c2, c3, c4, c5, c6, c7, c8⟩ := cells9 X3.out
  go_wp2_with fail
  refine (tnAdd_any HT.out.a (by show 0 < _; omega) (t := t) (fun W f => HR.out.no (F3.out.newS f (NS1.out _ NA.out)))).mono ?_
  by_cases hrt : RightT t
  rotate_left
  · rw [add_not hrt]
    rintro r w4 ⟨rfl, -, SA4, a4, f4, -, -⟩
    have F4 := Lib.hid (F3.out.newS f4 (NS1.out _ NA.out))
    clear a4 f4
    go_wp2_with fail
    go_ret
    exact ⟨rfl, F4.out⟩
  rw [add_one hrt]
  rintro r w4 ⟨rfl, -, SA4, a4, f4, s4, -⟩
  have T4 := Lib.hid (show Two SA4 SB w4 ta tb (AT t 0) ⟨[], 0⟩ from HT.out.stepA a4 f4 s4)
  have NA4 := Lib.hid (NA.out.more s4 hw3)
  have F4 := Lib.hid (F3.out.newS f4 (NS1.out _ NA.out))
  have X4 := Lib.hid (f4.heap X3.out (fun h => by have := NA.out tq h; omega))
  have hw4 : tq + 1 ≤ w4.heap.size := Nat.le_trans hw3 f4.size
  have RT := Lib.hid hrt
  clear a4 f4 s4 HT F3 X3 NA c0 c1 c2 c3 c4 c5 c6 c7 c8 hw3 hrt
  have NAT : Hid (¬ SA4 tq ∧ ¬ SB tq) := Lib.hid ⟨fun h => by have := NA4.out tq h; omega, fun h => by have := NB.out tq h; omega⟩
  obtain ⟨c0, c1, c2, c3, c4, c5, c6, c7, c8⟩ := cells9 X4.out
  have LTA : Hid (∀ k, SA4 k → k < w4.heap.size) := Lib.hid T4.out.a.lt
  have LTB : Hid (∀ k, SB k → k < w4.heap.size) := Lib.hid T4.out.b.lt
  go_upto_region 10 with fail
  have f5 := (Fr.refl No w4).alloc (.cells #[.int .i64 t.kind, .int .u32 (t.loc : Int), .int .u32 (t.pee : Int), .int .u32 (t.id : Int), .int .i64 t.seg, .slice oo on oc, .slice ko kn kc, .bool t.sum, .bool t.seq] 27)
  have U5 := Lib.hid (heap_alloc_new w4 (.cells #[.int .i64 t.kind, .int .u32 (t.loc : Int), .int .u32 (t.pee : Int), .int .u32 (t.id : Int), .int .i64 t.seg, .slice oo on oc, .slice ko kn kc, .bool t.sum, .bool t.seq] 27))
  have X5 := Lib.hid (f5.heap X4.out (fun h => h))
  have T5 := Lib.hid (T4.out.no f5)
  have F5 := Lib.hid (F4.out.trans f5)
  have hs5 : (w4.alloc (.cells #[.int .i64 t.kind, .int .u32 (t.loc : Int), .int .u32 (t.pee : Int), .int .u32 (t.id : Int), .int .i64 t.seg, .slice oo on oc, .slice ko kn kc, .bool t.sum, .bool t.seq] 27)).heap.size = w4.heap.size + 1 := by simp
  clear f5 c0 c1 c2 c3 c4 c5 c6 c7 c8 X4 T4 F4
  generalize w4.alloc (.cells #[.int .i64 t.kind, .int .u32 (t.loc : Int), .int .u32 (t.pee : Int), .int .u32 (t.id : Int), .int .i64 t.seg, .slice oo on oc, .slice ko kn kc, .bool t.sum, .bool t.seq] 27) = w5 at *
  obtain ⟨uq, huq⟩ : ∃ uq, uq = w4.heap.size := ⟨_, rfl⟩
  rw [← huq] at U5 LTA LTB hs5 hw4 ⊢
  have NAU : Hid (¬ SA4 uq ∧ ¬ SB uq) := Lib.hid ⟨fun h => by have := LTA.out uq h; omega, fun h => by have := LTB.out uq h; omega⟩
  have hu0 : w.heap.size ≤ uq := by omega
  have hut : tq < uq := by omega
  clear huq
  obtain ⟨c0, c1, c2, c3, c4, c5, c6, c7, c8⟩ := cells9 X5.out
  obtain ⟨d0, d1, d2, d3, d4, d5, d6, d7, d8⟩ := cells9 U5.out
  have zu := fun i => free_row U5.out i
  go_upto_region 14 with fail
  have U9 := Lib.hid (set_row (cs' := #[.int .i64 t.kind, .int .u32 (t.pee : Int), .int .u32 (t.loc : Int), .int .u32 (t.id : Int), .int .i64 0, .slice oo on oc, .slice none 0 0, .bool t.sum, .bool t.seq]) (set_row (cs' := #[.int .i64 t.kind, .int .u32 (t.pee : Int), .int .u32 (t.loc : Int), .int .u32 (t.id : Int), .int .i64 0, .slice oo on oc, .slice ko kn kc, .bool t.sum, .bool t.seq]) (set_row (cs' := #[.int .i64 t.kind, .int .u32 (t.pee : Int), .int .u32 (t.loc : Int), .int .u32 (t.id : Int), .int .i64 t.seg, .slice oo on oc, .slice ko kn kc, .bool t.sum, .bool t.seq]) (set_row (cs' := #[.int .i64 t.kind, .int .u32 (t.pee : Int), .int .u32 (t.pee : Int), .int .u32 (t.id : Int), .int .i64 t.seg, .slice oo on oc, .slice ko kn kc, .bool t.sum, .bool t.seq]) U5.out 1 (.int .u32 (t.pee : Int)) (by simp)) 2 (.int .u32 (t.loc : Int)) (by simp)) 4 (.int .i64 0) (by simp)) 6 (.slice none 0 0) (by simp))
  have f9 := (((((Fr.refl (Is uq) w5).setCell (p := ⟨uq, 1, none⟩) (.inl (show uq = uq from rfl)) (.int .u32 (t.pee : Int))).setCell (p := ⟨uq, 2, none⟩) (.inl (show uq = uq from rfl)) (.int .u32 (t.loc : Int))).setCell (p := ⟨uq, 4, none⟩) (.inl (show uq = uq from rfl)) (.int .i64 0)).setCell (p := ⟨uq, 6, none⟩) (.inl (show uq = uq from rfl)) (.slice none 0 0))
  have X9 := Lib.hid (f9.heap X5.out (fun h : tq = uq => by omega))
  have T9 : Hid (Two SA4 SB _ ta tb (AT t 0) ⟨[], 0⟩) := Lib.hid ⟨T5.out.a.fr f9 (fun k hk (h : k = uq) => NAU.out.1 (h ▸ hk)), T5.out.b.fr f9 (fun k hk (h : k = uq) => NAU.out.2 (h ▸ hk)), T5.out.dis⟩
  have F9 := Lib.hid (F5.out.then f9 (fun i hi (h : i = uq) => by omega))
  clear f9 X5 U5 T5 F5 c0 c1 c2 c3 c4 c5 c6 c7 c8 d0 d1 d2 d3 d4 d5 d6 d7 d8 zu hs5
  generalize ((((w5.setCell ⟨uq, 1, none⟩ (.int .u32 (t.pee : Int))).setCell ⟨uq, 2, none⟩ (.int .u32 (t.loc : Int))).setCell ⟨uq, 4, none⟩ (.int .i64 0)).setCell ⟨uq, 6, none⟩ (.slice none 0 0)) = w9 at *
  go_wp2_with fail
  go_loopw [11] (fun s11 wr => ∃ (i : Nat) (vo : Option Addr) (vc : Nat), s11 = .int .i64 i ∧ i ≤ on ∧ wr.heap[uq]? = some (.cells #[.int .i64 t.kind, .int .u32 (t.pee : Int), .int .u32 (t.loc : Int), .int .u32 (t.id : Int), .int .i64 0, .slice oo on oc, .slice vo i vc, .bool t.sum, .bool t.seq] 27 (0, 0)) ∧
      OU wr vo i vc ((t.os.take i).map codeO) ∧ (∀ a, vo = some a → uq < a.block ∧ ¬ SA4 a.block ∧ ¬ SB a.block) ∧ wr.heap[tq]? = some (.cells #[.int .i64 t.kind, .int .u32 (t.loc : Int), .int .u32 (t.pee : Int), .int .u32 (t.id : Int), .int .i64 t.seg, .slice oo on oc, .slice ko kn kc, .bool t.sum, .bool t.seq] 27 (0, 0)) ∧ Two SA4 SB wr ta tb (AT t 0) ⟨[], 0⟩ ∧ Fr No w wr) (fun s11 _ => on - (intOf s11).toNat)
  case atStart => exact ⟨0, none, 0, rfl, by omega, U9.out, OU.nil _, fun a h => (by cases h), X9.out, T9.out, F9.out⟩
  case round =>
    clear U9 X9 T9 F9
    obtain ⟨i, vo, vc, rfl, hi, hu, hou, hvo, hx, htw, hfr⟩ := hrel
    have UR := Lib.hid hu
    have OU1 := Lib.hid hou
    have VO := Lib.hid hvo
    have XR := Lib.hid hx
    have TR := Lib.hid htw
    have FR := Lib.hid hfr
    clear hu hou hvo hx htw hfr
    by_cases hlt : i < on
    · obtain ⟨a, o, rfl, hoi, ⟨bo, bc, e1, e2, -, -⟩, hcls⟩ := (HR.out.os.no FR.out).get i hlt
      have HOI := Lib.hid hoi
      have hor := u32_or_nat' o.cls o.typ.toNat hcls o.typ.toNat_lt
      rw [show o.cls * 256 + o.typ.toNat = codeO o from rfl] at hor
      have htl := o.typ.toNat_lt
      clear hoi
      have hul := lt_of_heap UR.out
      have hab : a.block < w.heap.size := by
        obtain ⟨a', o', ha', ho', ⟨_, _, g1, _⟩, _⟩ := HR.out.os.get i hlt
        cases ha'
        have := World.block_lt_of_cell? w _ g1
        rwa [Addr.add_block] at this
      have HOR : Hid (bits .or .u32 (IntKind.u32.wrap (IntKind.u32.wrap (o.cls : Int) * 256)) (IntKind.u32.wrap (o.typ.toNat : Int)) = (codeO o : Int)) := Lib.hid (by
        have e1 : IntKind.u32.wrap (o.cls : Int) = (o.cls : Int) := by rw [IntKind.wrap_u32]; omega
        have e2 : IntKind.u32.wrap ((o.cls : Int) * 256) = (o.cls : Int) * 256 := by rw [IntKind.wrap_u32]; omega
        have e3 : IntKind.u32.wrap (o.typ.toNat : Int) = (o.typ.toNat : Int) := by rw [IntKind.wrap_u32]; omega
        rw [e1, e2, e3]; exact hor)
      have SF : Hid (∀ w', Fr (fun k => uq < k) wr w' → w'.cell? ⟨uq, 6, none⟩ = some (.slice vo i vc) ∧ w'.cell? ⟨tq, 5, none⟩ = some (.slice (some a) on oc) ∧ w'.cell? (a.add (i * 3)) = some (.int .u16 (o.cls : Int)) ∧ w'.cell? ⟨(a.add (i * 3)).block, (a.add (i * 3)).off + 1, none⟩ = some (.int .u8 (o.typ.toNat : Int))) := Lib.hid (by
        intro w' f
        obtain ⟨x0, x1, x2, x3, x4, x5, x6, x7, x8⟩ := cells9 (f.heap XR.out (by simp; omega))
        obtain ⟨y0, y1, y2, y3, y4, y5, y6, y7, y8⟩ := cells9 (f.heap UR.out (by simp))
        exact ⟨y6, x5, f.cell e1 (by rw [Addr.add_block]; simp; omega), f.cell e2 (by simp only; rw [Addr.add_block]; simp; omega)⟩)
      obtain ⟨c0, c1, c2, c3, c4, c5, c6, c7, c8⟩ := cells9 XR.out
      have b4 : (i : Int) < (on : Int) := by omega
      have b5 : (0 : Int) ≤ (i : Int) := by omega
      have b6 : (i : Int).toNat = i := by omega
      go_wp2_with fail
      refine wp_region_tail (S := (fun w' => w'.cell? ⟨uq, 6, none⟩ = some (.slice vo i vc) ∧ w'.cell? ⟨tq, 5, none⟩ = some (.slice (some a) on oc) ∧ w'.cell? (a.add (i * 3)) = some (.int .u16 (o.cls : Int)) ∧ w'.cell? ⟨(a.add (i * 3)).block, (a.add (i * 3)).off + 1, none⟩ = some (.int .u8 (o.typ.toNat : Int)))) rfl (by kernel_rfl) (by kernel_rfl) ?_ (fun hHeld => ?_)
      · ((try dsimp only); exact SF.out _ (Fr.refl _ wr).drew)
      · skip
        simp only [List.dropLast_cons_cons, List.dropLast_singleton, List.length_cons, List.length_nil, Nat.zero_add, Nat.reduceAdd, List.replicate]
        apply wpAnyH_take (i := 0)
        · rfl
        · kernel_rfl
        · kernel_rfl
        · kernel_rfl
        · exact fun _ _ _ h => h
        · (refine Or.inl ⟨by rfl, ?_⟩; intro w hSw; (try dsimp only at hSw); go_simp; try with_reducible rfl)
        · assumption
        simp only [Act.put, List.setIfInBounds_toArray, List.set_cons_zero, List.set_cons_succ]
        apply wpAnyH_take (i := 1)
        · rfl
        · kernel_rfl
        · kernel_rfl
        · kernel_rfl
        · exact fun _ _ _ h => h
        · (refine Or.inl ⟨by rfl, ?_⟩; intro w hSw; (try dsimp only at hSw); go_simp; try with_reducible rfl)
        · assumption
        simp only [Act.put, List.setIfInBounds_toArray, List.set_cons_zero, List.set_cons_succ]
        apply wpAnyH_take (i := 2)
        · rfl
        · kernel_rfl
        · kernel_rfl
        · kernel_rfl
        · exact fun _ _ _ h => h
        · (refine Or.inl ⟨by rfl, ?_⟩; intro w hSw; (try dsimp only at hSw); go_simp; try with_reducible rfl)
        · assumption
        simp only [Act.put, List.setIfInBounds_toArray, List.set_cons_zero, List.set_cons_succ]
        apply wpAnyH_take (i := 3)
        · rfl
        · kernel_rfl
        · kernel_rfl
        · kernel_rfl
        · exact fun _ _ _ h => h
        · (refine Or.inl ⟨by rfl, ?_⟩; intro w hSw; (try dsimp only at hSw); go_simp; try with_reducible rfl)
        · assumption
        simp only [Act.put, List.setIfInBounds_toArray, List.set_cons_zero, List.set_cons_succ]
        apply wpAnyH_take (i := 4)
        · rfl
        · kernel_rfl
        · kernel_rfl
        · kernel_rfl
        · exact fun _ _ _ h => h
        · (refine Or.inl ⟨by rfl, ?_⟩; intro w hSw; (try dsimp only at hSw); go_simp; try with_reducible rfl)
        · assumption
        simp only [Act.put, List.setIfInBounds_toArray, List.set_cons_zero, List.set_cons_succ]
        apply wpAnyH_take (i := 5)
        · rfl
        · kernel_rfl
        · kernel_rfl
        · kernel_rfl
        · exact fun _ _ _ h => h
        · (refine Or.inl ⟨by rfl, ?_⟩; intro w hSw; (try dsimp only at hSw); go_simp; try with_reducible rfl)
        · assumption
        simp only [Act.put, List.setIfInBounds_toArray, List.set_cons_zero, List.set_cons_succ]
        apply wpAnyH_take (i := 6)
        · rfl
        · kernel_rfl
        · kernel_rfl
        · kernel_rfl
        · exact fun _ _ _ h => h
        · (refine Or.inl ⟨by rfl, ?_⟩; intro w hSw; (try dsimp only at hSw); go_simp; try with_reducible rfl)
        · assumption
        simp only [Act.put, List.setIfInBounds_toArray, List.set_cons_zero, List.set_cons_succ]
        apply wpAnyH_take (i := 7)
        · rfl
        · kernel_rfl
        · kernel_rfl
        · kernel_rfl
        · exact fun _ _ _ h => h
        · (refine Or.inl ⟨by rfl, ?_⟩; intro w hSw; (try dsimp only at hSw); go_simp; try with_reducible rfl)
        · assumption
        simp only [Act.put, List.setIfInBounds_toArray, List.set_cons_zero, List.set_cons_succ]
        apply wpAnyH_take (i := 8)
        · rfl
        · kernel_rfl
        · kernel_rfl
        · kernel_rfl
        · exact fun _ _ _ h => h
        · (refine Or.inl ⟨by rfl, ?_⟩; intro w hSw; (try dsimp only at hSw); go_simp; try with_reducible rfl)
        · assumption
        simp only [Act.put, List.setIfInBounds_toArray, List.set_cons_zero, List.set_cons_succ]
        apply wpAnyH_take (i := 9)
        · rfl
        · kernel_rfl
        · kernel_rfl
        · kernel_rfl
        · exact fun _ _ _ h => h
        · (refine Or.inl ⟨by rfl, ?_⟩; intro w hSw; (try dsimp only at hSw); go_simp; try with_reducible rfl)
        · assumption
        simp only [Act.put, List.setIfInBounds_toArray, List.set_cons_zero, List.set_cons_succ]
        apply wpAnyH_take (i := 10)
        · rfl
        · kernel_rfl
        · kernel_rfl
        · kernel_rfl
        · exact fun _ _ _ h => h
        · (refine Or.inl ⟨by rfl, ?_⟩; intro w hSw; (try dsimp only at hSw); go_simp; try with_reducible rfl)
        · assumption
        simp only [Act.put, List.setIfInBounds_toArray, List.set_cons_zero, List.set_cons_succ]
        apply wpAnyH_take (i := 11)
        · rfl
        · kernel_rfl
        · kernel_rfl
        · kernel_rfl
        · exact fun _ _ _ h => h
        · (refine Or.inl ⟨by rfl, ?_⟩; intro w hSw; (try dsimp only at hSw); go_simp; try with_reducible rfl)
        · assumption
        simp only [Act.put, List.setIfInBounds_toArray, List.set_cons_zero, List.set_cons_succ]
        apply wpAnyH_take (i := 12)
        · rfl
        · kernel_rfl
        · kernel_rfl
        · kernel_rfl
        · exact fun _ _ _ h => h
        · (refine Or.inl ⟨by rfl, ?_⟩; intro w hSw; (try dsimp only at hSw); go_simp; try with_reducible rfl)
        · assumption
        simp only [Act.put, List.setIfInBounds_toArray, List.set_cons_zero, List.set_cons_succ]
        apply wpAnyH_take (i := 13)
        · rfl
        · kernel_rfl
        · kernel_rfl
        · kernel_rfl
        · exact fun _ _ _ h => h
        · (refine Or.inl ⟨by rfl, ?_⟩; intro w hSw; (try dsimp only at hSw); go_simp; try with_reducible rfl)
        · assumption
        simp only [Act.put, List.setIfInBounds_toArray, List.set_cons_zero, List.set_cons_succ]
        apply wpAnyH_take (i := 14)
        · rfl
        · kernel_rfl
        · kernel_rfl
        · kernel_rfl
        · exact fun _ _ _ h => h
        · (refine Or.inl ⟨by rfl, ?_⟩; intro w hSw; (try dsimp only at hSw); go_simp; try with_reducible rfl)
        · assumption
        simp only [Act.put, List.setIfInBounds_toArray, List.set_cons_zero, List.set_cons_succ]
        apply wpAnyH_take (i := 15)
        · rfl
        · kernel_rfl
        · kernel_rfl
        · kernel_rfl
        · exact fun _ _ _ h => h
        · (refine Or.inl ⟨by rfl, ?_⟩; intro w hSw; (try dsimp only at hSw); go_simp; try with_reducible rfl)
        · assumption
        simp only [Act.put, List.setIfInBounds_toArray, List.set_cons_zero, List.set_cons_succ]
        apply wpAnyH_take (i := 16)
        · rfl
        · kernel_rfl
        · kernel_rfl
        · kernel_rfl
        · exact fun _ _ _ h => h
        · (refine Or.inl ⟨by rfl, ?_⟩; intro w hSw; (try dsimp only at hSw); go_simp; try with_reducible rfl)
        · assumption
        simp only [Act.put, List.setIfInBounds_toArray, List.set_cons_zero, List.set_cons_succ]
        apply wpAnyH_take (i := 17)
        · rfl
        · kernel_rfl
        · kernel_rfl
        · kernel_rfl
        · exact fun _ _ _ h => h
        · (refine Or.inl ⟨by rfl, ?_⟩; intro w hSw; (try dsimp only at hSw); go_simp; try with_reducible rfl)
        · assumption
        simp only [Act.put, List.setIfInBounds_toArray, List.set_cons_zero, List.set_cons_succ]
        refine wpAnyH_ready (rs := [18]) (by kernel_rfl) (by simp) (AllReadyH.cons rfl (fun K hK => ?_) AllReadyH.nil)
        · skip
          go_simp
          rw [HOR.out]
          refine hK.out _ _ ?_ (fun hHeld => ?_)
          · ((try dsimp only); first | exact SF.out _ (((Fr.refl _ wr).drew).alloc _) | exact SF.out _ G8.out)
          · skip
            clear hK K
            (try simp only [Act.put, List.setIfInBounds_toArray, List.set_cons_zero, List.set_cons_succ])
            refine wpAnyH_ready (rs := [19]) (by kernel_rfl) (by simp) (AllReadyH.cons rfl (fun K hK => ?_) AllReadyH.nil)
            · skip
              refine step_append_u (.tmp 59) (.tmp 76) (by rfl) (by rfl) (by rfl) (by rfl) (OU1.out.no (((Fr.refl No wr).drew).alloc _)) (ys := [codeO o])
                ⟨rfl, (Own.made (w := wr.drew) (e := 22) (size := 1) #[.int .u32 (codeO o : Int)] 1 rfl (by decide)).sl⟩ (m := 1) (by unfold mostU; omega) ?_
              intro vo' vc' w8 n' hn' ho8 f8 hd8
              have g8 : Fr (fun k => uq < k) wr w8 := (((Fr.refl _ wr).drew).alloc _).then f8 (by rintro k hk ⟨x, hx, rfl⟩; exact (VO.out x hx).1)
              have v8 : ∀ x, vo' = some x → uq < x.block ∧ ¬ SA4 x.block ∧ ¬ SB x.block := by
                intro x hx
                rcases hd8 with h | h
                · exact VO.out x (by rw [← h]; exact hx)
                · have h2 := h x hx
                  simp at h2
                  exact ⟨by omega, fun hs => by have := TR.out.a.lt _ hs; omega, fun hs => by have := TR.out.b.lt _ hs; omega⟩
              have G8 := Lib.hid g8
              have V8 := Lib.hid v8
              have O8 := Lib.hid ho8
              have A8 := Lib.hid (show Fr (At vo) wr w8 from (((Fr.refl _ wr).drew).alloc _).then f8 (by intro k hk h; exact h))
              have U8 := Lib.hid (g8.heap UR.out (by simp))
              clear g8 v8 ho8 f8 hd8
              refine hK.out _ _ ?_ (fun hHeld => ?_)
              · ((try dsimp only); first | exact SF.out _ (((Fr.refl _ wr).drew).alloc _) | exact SF.out _ G8.out)
              · skip
                clear hK K
                (try simp only [Act.put, List.setIfInBounds_toArray, List.set_cons_zero, List.set_cons_succ])
                apply wpAnyH_take (i := 20)
                · rfl
                · kernel_rfl
                · kernel_rfl
                · kernel_rfl
                · exact fun _ _ _ h => h
                · (refine Or.inl ⟨by rfl, ?_⟩; intro w hSw; (try dsimp only at hSw); go_simp; try with_reducible rfl)
                · assumption
                simp only [Act.put, List.setIfInBounds_toArray, List.set_cons_zero, List.set_cons_succ]
                refine wpAnyH_done (by kernel_rfl) ?_ _
                obtain ⟨k0, k1, k2, k3, k4, k5, k6, k7, k8⟩ := cells9 U8.out
                have zk := free_row U8.out 6
                change Oper.wp _ _ _ _ _ _
                go_simp
                go_wp2_with fail
                go_roundw
                case rel =>
                  have hn := hn'.out
                  have U9 := set_row (cs' := #[.int .i64 t.kind, .int .u32 (t.pee : Int), .int .u32 (t.loc : Int), .int .u32 (t.id : Int), .int .i64 0, .slice (some a) on oc, .slice vo' n' vc', .bool t.sum, .bool t.seq]) U8.out 6 (.slice vo' n' vc') (by simp)
                  have f9 := Fr.setCell (Fr.refl (Is uq) w8) (p := ⟨uq, 6, none⟩) (.inl rfl) (.slice vo' n' vc')
                  subst hn
                  refine ⟨i + 1, vo', vc', by go_num, by omega, U9, ?_, V8.out, f9.heap (G8.out.heap XR.out (by simp; omega)) (fun h : tq = uq => by omega), ⟨(TR.out.a.fr A8.out ?_).fr f9 (fun k hk (h : k = uq) => NAU.out.1 (h ▸ hk)), (TR.out.b.fr A8.out ?_).fr f9 (fun k hk (h : k = uq) => NAU.out.2 (h ▸ hk)), TR.out.dis⟩, (FR.out.then A8.out ?_).then f9 (fun k hk (h : k = uq) => by omega)⟩
                  · rw [takeO HOI.out, List.map_append]
                    exact O8.out.fr f9 (fun x hx (h : x.block = uq) => by have := (V8.out x hx).1; omega)
                  · rintro k hk ⟨x, hx, rfl⟩; exact (VO.out x hx).2.1 hk
                  · rintro k hk ⟨x, hx, rfl⟩; exact (VO.out x hx).2.2 hk
                  · rintro k hk ⟨x, hx, rfl⟩; have := (VO.out x hx).1; omega
                case measure => simp [intOf]; omega
    · have hge : ¬ (i : Int) < (on : Int) := by omega
      have OU2 : Hid (OU wr vo i vc (t.os.map codeO)) := Lib.hid (by
        have h := OU1.out
        rwa [List.take_of_length_le (by have := HR.out.os.len; omega)] at h)
      obtain ⟨c0, c1, c2, c3, c4, c5, c6, c7, c8⟩ := cells9 XR.out
      obtain ⟨d0, d1, d2, d3, d4, d5, d6, d7, d8⟩ := cells9 UR.out
      have hwt : tq + 1 ≤ wr.heap.size := lt_of_heap XR.out
      clear hlt OU1
      go_wp2_with fail
      refine (tnAdd_any TR.out.b (by show 0 < _; omega) (t := turnT t) (fun W f => ⟨ok_turn HOK.out HOC.out, HR.out.os.no (FR.out.newS f (NS1.out _ NB.out)), (OU2.out.fr f (fun a ha hs => (VO.out a ha).2.2 hs)).us, ho3, by unfold mostU; omega⟩)).mono ?_
      rw [add_one (right_turn RT.out)]
      rintro r w10 ⟨rfl, -, SB5, a5, f5, s5, -⟩
      have T5 := Lib.hid (show Two SA4 SB5 w10 ta tb (AT t 0) (BT t none) from TR.out.stepB a5 f5 s5)
      have NB5 := Lib.hid (NB.out.more s5 hwt)
      have F5 := Lib.hid (FR.out.newS f5 (NS1.out _ NB.out))
      have X5 := Lib.hid (f5.heap XR.out (fun h => NAT.out.2 h))
      clear a5 f5 s5 TR FR XR UR OU2 VO NB c0 c1 c2 c3 c4 c5 c6 c7 c8 d0 d1 d2 d3 d4 d5 d6 d7 d8 hwt
      go_wp2_with fail
      go_loopw [14] (fun s14 wr => ∃ (j nx : Nat) (la : Option Nat) (S2 : Nat → Prop), s14 = .int .i64 j ∧ j ≤ fn ∧ j ≤ 20 ∧ nx ≤ j ∧ (∀ y, la = some y → y < nx) ∧ Two SA4 S2 wr ta tb (AT t nx) (BT t la) ∧ NewS (tq + 1) S2 ∧ wr.heap[tq]? = some (.cells #[.int .i64 t.kind, .int .u32 (t.loc : Int), .int .u32 (t.pee : Int), .int .u32 (t.id : Int), .int .i64 t.seg, .slice oo on oc, .slice ko kn kc, .bool t.sum, .bool t.seq] 27 (0, 0)) ∧ Fr No w wr) (fun s14 _ => fn - (intOf s14).toNat)
      case atStart => exact ⟨0, 0, none, SB5, rfl, by omega, by omega, by omega, by simp, T5.out, NB5.out, X5.out, F5.out⟩
      case round =>
        clear T5 NB5 X5 F5
        obtain ⟨j, nx, la, S2, rfl, hj1, hj2, hnx, hla, htw, hns, hx, hfr⟩ := hrel
        have LA := Lib.hid hla
        have TR := Lib.hid htw
        have NS := Lib.hid hns
        have XR := Lib.hid hx
        have FR := Lib.hid hfr
        clear hla htw hns hx hfr
        by_cases hlt : j < fn ∧ j < 20
        · obtain ⟨hl1, hl2⟩ := hlt
          obtain ⟨fa, bo, l, cp, fs, rfl, hcw, hbs⟩ := HF.out.at' j hl1
          have HCW := Lib.hid hcw
          have HBS := Lib.hid hbs
          have hl := hbs.1
          have hll := hbs.2.le
          have hlc := hbs.2.capLe
          have g0 := FR.out.cell hcw (fun h => h)
          have hwr : tq + 1 ≤ wr.heap.size := lt_of_heap XR.out
          have HL := Lib.hid hl
          clear hcw hbs hl
          go_wp2_with fail
          by_cases hs : 14 ≤ l ∧ l ≤ 9000
          · obtain ⟨hs1, hs2⟩ := hs
            have hsz : sizN fs = 0 := (siz_iff fs).2 ⟨by rw [← HL.out]; exact hs1, by rw [← HL.out]; exact hs2⟩
            have HSZ := Lib.hid hsz
            refine (tnEncap_ok TR.out.a (n := 0) (by unfold okK; omega) (e := ⟨t, nx, none⟩) rfl (fun W f => HBS.out.no (FR.out.newS f (NS1.out _ NA4.out))) hsz).mono ?_
            rw [enc_ok t (by omega) hsz]
            clear hsz
            rintro r w6 ⟨a6, f6, hm6⟩
            simp only at a6 hm6
            obtain ⟨g, gc, he, ob6, hg6⟩ := hm6
            rw [show (pkT t nx fs).src = t.loc from rfl, show (pkT t nx fs).dst = t.pee from rfl] at he
            subst he
            have fz := (Fr.refl No w6).alloc (.cells #[.int .u32 (t.loc : Int), .int .u32 (t.pee : Int), .int .u8 ((pkT t nx fs).proto : Int), .int .u16 ((pkT t nx fs).sport : Int), .int .u16 ((pkT t nx fs).dport : Int), .slice (some ⟨g, 0, none⟩) (pkT t nx fs).b.length gc] 41)
            have Y7 := Lib.hid (heap_alloc_new w6 (.cells #[.int .u32 (t.loc : Int), .int .u32 (t.pee : Int), .int .u8 ((pkT t nx fs).proto : Int), .int .u16 ((pkT t nx fs).sport : Int), .int .u16 ((pkT t nx fs).dport : Int), .slice (some ⟨g, 0, none⟩) (pkT t nx fs).b.length gc] 41))
            have T7 := Lib.hid ((TR.out.stepA a6 f6 (fun k hk => .inl hk)).no fz)
            have F7 := Lib.hid ((FR.out.newS f6 (NS1.out _ NA4.out)).trans fz)
            have X7 := Lib.hid (fz.heap (f6.heap XR.out (fun h => NAT.out.1 h)) (fun h => h))
            have OB7 := Lib.hid (ob6.no fz)
            have g7 := F7.out.cell HCW.out (fun h => h)
            have NG : Hid (¬ S2 g ∧ ¬ S2 w6.heap.size) := Lib.hid ⟨fun h => by have := TR.out.b.lt g h; omega, fun h => by have := TR.out.b.lt _ h; have := f6.size; omega⟩
            have hpl : tq + 1 ≤ w6.heap.size := Nat.le_trans hwr f6.size
            clear a6 f6 ob6 fz TR FR XR g0
            go_upto_region 25 with fail
            have hw7 : w6.heap.size < (w6.alloc (.cells #[.int .u32 (t.loc : Int), .int .u32 (t.pee : Int), .int .u8 ((pkT t nx fs).proto : Int), .int .u16 ((pkT t nx fs).sport : Int), .int .u16 ((pkT t nx fs).dport : Int), .slice (some ⟨g, 0, none⟩) (pkT t nx fs).b.length gc] 41)).heap.size := by simp
            generalize w6.alloc (.cells #[.int .u32 (t.loc : Int), .int .u32 (t.pee : Int), .int .u8 ((pkT t nx fs).proto : Int), .int .u16 ((pkT t nx fs).sport : Int), .int .u16 ((pkT t nx fs).dport : Int), .slice (some ⟨g, 0, none⟩) (pkT t nx fs).b.length gc] 41) = w7 at *
            generalize w6.heap.size = pq at *
            have b1 : ¬ (l : Int) < 14 := by omega
            have b2 : ¬ (9000 : Int) < (l : Int) := by omega
            obtain ⟨e0, e1, e2, e3, e4, e5⟩ := cells6' Y7.out
            go_wp2_with fail
            obtain ⟨la', hla', hdec⟩ := back_dec RT.out HOK.out HOC.out (nx := nx) (by omega) (fs := fs) (by rw [← HL.out]; exact hs1) (by rw [← HL.out]; exact hs2) LA.out
            have LA' := Lib.hid hla'
            clear hla'
            refine (tnDecap_any T7.out.b (by show 1 < _; omega) (p := pkT t nx fs) ⟨OB7.out.bs, pk_len RT.out nx (by rw [← HL.out]; exact hs2), HOK.out.loc, HOK.out.pee⟩).mono ?_
            rw [hdec]
            clear hdec
            rintro r w8 ⟨S3, b8, f8, s8, s8', g8, gc8, he, o8, -, -⟩
            rw [← HL.out] at he o8
            subst he
            have T8 := Lib.hid (T7.out.stepB b8 f8 s8)
            have NS8 := Lib.hid (NS.out.more s8 (by omega))
            have F8 := Lib.hid (F7.out.newS f8 (NS1.out _ NS.out))
            have X8 := Lib.hid (f8.heap X7.out (fun h => by have := NS.out tq h; omega))
            have Y8 := Lib.hid (f8.heap Y7.out (fun h => NG.out.2 h))
            have q1 : ∀ nq, (convert 36 9 (.slice (some ⟨g8, 0, none⟩) l gc8)).run Try.prog (w8.drewN nq) = .ok (.string ⟨fs.toArray⟩) (w8.drewN nq) := fun nq => run_bytes_string _ 36 9 5 (o8.bs.no ((Fr.refl No w8).drewN nq)) Try.underlying36 Try.underlying5 Try.underlying9
            have q2 : ∀ nq, (convert 36 9 (.slice bo l cp)).run Try.prog (w8.drewN nq) = .ok (.string ⟨fs.toArray⟩) (w8.drewN nq) := fun nq => run_bytes_string _ 36 9 5 (HBS.out.no (F8.out.drewN nq)) Try.underlying36 Try.underlying5 Try.underlying9
            have g8' := F8.out.cell HCW.out (fun h => h)
            clear b8 f8 s8 s8' o8 T7 F7 X7 Y7 OB7 g7 e0 e1 e2 e3 e4 e5 NG
            obtain ⟨e0, e1, e2, e3, e4, e5⟩ := cells6' Y8.out
            obtain ⟨c0, c1, c2, c3, c4, c5, c6, c7, c8⟩ := cells9 X8.out
            have b3 : (j : Int) < (fn : Int) := by omega
            have b4 : (0 : Int) ≤ (j : Int) := by omega
            have b5 : (j : Int).toNat = j := by omega
            go_wp2_with fail
            go_quiet (fail)
            clear q1 q2
            go_wp2_with fail
            go_roundw
            case rel => exact ⟨j + 1, nx + 1, la', S3, by go_num, by omega, by omega, by omega, LA'.out, T8.out.no ((Fr.refl No w8).drewN _), NS8.out, ((Fr.refl No w8).drewN _).heap X8.out (fun h => h), F8.out.drewN _⟩
            case measure => simp [intOf]; omega
          · have hsz : sizN fs ≠ 0 := fun h => hs (by have := (siz_iff fs).1 h; rw [← HL.out] at this; exact this)
            refine (tnEncap_no TR.out.a (n := 0) (by unfold okK; omega) (e := ⟨t, nx, none⟩) rfl (HBS.out.no FR.out) hsz).mono ?_
            rw [enc_no t nx hsz]
            clear hsz
            rintro r w6 ⟨a6, f6, v, rfl, he⟩
            obtain ⟨eb, rfl⟩ := he.wrongT
            have fz := (Fr.refl No w6).alloc (.cells #[.int .u32 0, .int .u32 0, .int .u8 0, .int .u16 0, .int .u16 0, .slice none 0 0] 41)
            have T6 := Lib.hid ((TR.out.stepA a6 f6 (fun k hk => .inl hk)).no fz)
            have F6 := Lib.hid ((FR.out.newS f6 (NS1.out _ NA4.out)).trans fz)
            have X6 := Lib.hid (fz.heap (f6.heap XR.out (fun h => NAT.out.1 h)) (fun h => h))
            have g6 := F6.out.cell HCW.out (fun h => h)
            clear a6 f6 he fz TR FR XR g0
            go_upto_region 25 with fail
            generalize w6.alloc (.cells #[.int .u32 0, .int .u32 0, .int .u8 0, .int .u16 0, .int .u16 0, .slice none 0 0] 41) = w7 at *
            by_cases hlo : l < 14
            · have b1 : (l : Int) < 14 := by omega
              go_wp2_with fail
              go_roundw
              case rel => exact ⟨j + 1, nx, la, S2, by go_num, by omega, by omega, by omega, LA.out, T6.out, NS.out, X6.out, F6.out⟩
              case measure => simp [intOf]; omega
            · have b1 : ¬ (l : Int) < 14 := by omega
              have b2 : (9000 : Int) < (l : Int) := by omega
              go_wp2_with fail
              go_roundw
              case rel => exact ⟨j + 1, nx, la, S2, by go_num, by omega, by omega, by omega, LA.out, T6.out, NS.out, X6.out, F6.out⟩
              case measure => simp [intOf]; omega
        · have hn : fn ≤ j ∨ 20 ≤ j := by omega
          clear hlt
          rcases hn with h | h
          · go_wp2_with fail
            go_ret
            exact ⟨rfl, FR.out⟩
          · go_wp2_with fail
            all_goals go_ret
            all_goals exact ⟨rfl, FR.out⟩
end Go.Proofs.Ythoppkklooomgaa