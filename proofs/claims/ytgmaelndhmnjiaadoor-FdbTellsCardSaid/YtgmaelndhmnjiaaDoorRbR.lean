/- the reference's base: New, Learn, Find, Drop, Forget, Tick. the reference's base: Learn. the reference's base: Static and Drop. -/
import Derived.Test.YtgmaelndhmnjiaaDoorRb4
import Derived.StillTailTactics
namespace Go.Proofs.YtgmaelndhmnjiaaDoor
open Go.RowKit
set_option linter.unusedVariables false
set_option linter.unusedSimpArgs false

theorem eqP15 (x y : Pl) (w : World) : (binOp .eql 48 (evPL x) (evPL y)).run Tryd.prog w = .ok (.bool (decide (x = y))) w := by
  have u3 := Tryd.underlying3
  have u4 := Tryd.underlying4
  have a3 := Tryd.isAgg3
  have a4 := Tryd.isAgg4
  have z3 := Tryd.sizeOf3
  have z4 := Tryd.sizeOf4
  have hS : Tryd.prog.underlying 48 = some (.struct (Tryd.prog.fieldsOf 48)) := by kernel_rfl
  have hp : Tryd.prog.stoodInHeld 48 = false := by kernel_rfl
  obtain ⟨a, b⟩ := x
  obtain ⟨a', b'⟩ := y
  simp only [evPL]
  rw [run_eql_struct, show (10000 : Nat) = 9999 + 1 from rfl, run_equalIn_agg w 9999 48 _ _ hS hp]
  simp only [Program.fieldsOf, Tryd.underlying48]
  go_simp
  by_cases h1 : a = a' <;> by_cases h2 : b = b' <;> simp [h1, h2]
theorem neqP15 (x y : Pl) (w : World) : (binOp .neq 48 (evPL x) (evPL y)).run Tryd.prog w = .ok (.bool (!decide (x = y))) w := by
  have u3 := Tryd.underlying3
  have u4 := Tryd.underlying4
  have a3 := Tryd.isAgg3
  have a4 := Tryd.isAgg4
  have z3 := Tryd.sizeOf3
  have z4 := Tryd.sizeOf4
  have hS : Tryd.prog.underlying 48 = some (.struct (Tryd.prog.fieldsOf 48)) := by kernel_rfl
  have hp : Tryd.prog.stoodInHeld 48 = false := by kernel_rfl
  obtain ⟨a, b⟩ := x
  obtain ⟨a', b'⟩ := y
  simp only [evPL]
  rw [run_neq_struct, show (10000 : Nat) = 9999 + 1 from rfl, run_equalIn_agg w 9999 48 _ _ hS hp]
  simp only [Program.fieldsOf, Tryd.underlying48]
  go_simp
  by_cases h1 : a = a' <;> by_cases h2 : b = b' <;> simp [h1, h2]
theorem At15.get {rs : AL} (h : Sor rs) {m : Mac} {z : Int} (hz : At15 rs m z) : (z = -1 ∧ aget rs m = none) ∨ ∃ (i : Nat) (e : En), z = (i : Int) ∧ rs[i]? = some e ∧ e.mac = m ∧ aget rs m = some e := by
  rcases hz with ⟨h1, h2⟩ | ⟨i, e, h1, h2, h3⟩
  · exact .inl ⟨h1, aget_none.2 h2⟩
  · exact .inr ⟨i, e, h1, h2, h3, (aget_some h).2 ⟨List.mem_of_getElem? h2, h3⟩⟩

theorem set_two {w : World} {b : Nat} {c0 c1 d0 d1 : Value} {e : TypeId} (h : w.heap[b]? = some (.cells #[c0, c1] e (0, 0))) : ((w.setCell ⟨b, 0, none⟩ d0).setCell ⟨b, 1, none⟩ d1).heap[b]? = some (.cells #[d0, d1] e (0, 0)) := by
  have k : ∀ (w : World) (cs : Array Value) (j : Nat) (u : Value), w.heap[b]? = some (.cells cs e (0, 0)) → (w.setCell ⟨b, j, none⟩ u).heap[b]? = some (.cells (cs.setIfInBounds j u) e (0, 0)) := by
    intro w cs j u h
    simp only [World.setCell, Array.getElem?_modify, if_true, h, Option.map_some, Option.isSome_none, Bool.false_eq_true, if_false]
  have := k _ _ 1 d1 (k _ _ 0 d0 h)
  simpa using this
set_option maxRecDepth 100000 in
set_option maxHeartbeats 2000000 in
theorem r15New_any (w : World) (room life : Int) {r : Int} (hr : min (max room 1) 64 = r) :
    Calls Tryd.prog 15 #[.int .i64 room, .int .u64 life] w fun e w' => e = .returned (.pointer (some ⟨w.heap.size, 0, none⟩)) ∧ R15 w' w.heap.size none 0 0 r life [] ∧ Fr No w w' := by
  subst hr
  have hb := heap_alloc_new w (.cells #[.int .i64 (min (max room 1) 64), .int .u64 life, .slice none 0 0] 58)
  have hf := (Fr.refl No w).alloc (.cells #[.int .i64 (min (max room 1) 64), .int .u64 life, .slice none 0 0] 58)
  have H := Lib.hid (show R15 _ w.heap.size none 0 0 (min (max room 1) 64) life [] from ⟨hb, rfl, Own.nil _ _ _, fun e he => by cases he⟩)
  have HF := Lib.hid hf
  clear hb hf
  go_enter Tryd.func15, Tryd.ntmps15
  go_wp2_with fail
  go_ret
  exact ⟨rfl, H.out, HF.out⟩
set_option maxRecDepth 100000 in
set_option maxHeartbeats 4000000 in
theorem r15Find_any {w : World} {rb n cap : Nat} {ao : Option Addr} {room life : Int} {rs : AL} (h : R15 w rb ao n cap room life rs) (hs : Sor rs) (m : Mac) {now : Int} (hn0 : 0 ≤ now) (hn1 : now < 18446744073709551616) {o : Option Pl} (ho : afind life rs m now = o) :
    Calls Tryd.prog 25 #[.pointer (some ⟨rb, 0, none⟩), evM m, .int .u64 now] w fun e w' => e = .returned (.tuple #[evPL (o.getD ⟨false, 0⟩), .bool o.isSome]) ∧ Fr No w w' := by
  obtain ⟨m0, m1, m2, m3, m4, m5⟩ := m
  have hc1 := h.own.le
  have hc2 := h.own.capLe
  have hB := ((Fr.refl No _).alloc (.cells #[.bool false, .int .i64 0] 48)).heap (heap_alloc_new w (.cells #[.int .u8 (m0.toNat : Int), .int .u8 (m1.toNat : Int), .int .u8 (m2.toNat : Int), .int .u8 (m3.toNat : Int), .int .u8 (m4.toNat : Int), .int .u8 (m5.toNat : Int)] 31)) (fun h => h)
  have hP := heap_alloc_new (w.alloc (.cells #[.int .u8 (m0.toNat : Int), .int .u8 (m1.toNat : Int), .int .u8 (m2.toNat : Int), .int .u8 (m3.toNat : Int), .int .u8 (m4.toNat : Int), .int .u8 (m5.toNat : Int)] 31)) (.cells #[.bool false, .int .i64 0] 48)
  simp only [World.size_alloc] at hP
  have hF := ((Fr.refl No w).alloc (.cells #[.int .u8 (m0.toNat : Int), .int .u8 (m1.toNat : Int), .int .u8 (m2.toNat : Int), .int .u8 (m3.toNat : Int), .int .u8 (m4.toNat : Int), .int .u8 (m5.toNat : Int)] 31)).alloc (.cells #[.bool false, .int .i64 0] 48)
  have H1 := h.no hF
  have HO := Lib.hid ho
  have HS := Lib.hid hs
  clear h ho hs
  unfold evM byteV
  simp only
  go_enter Tryd.func25, Tryd.ntmps25
  go_wp2_with fail
  have hnb : w.heap.size ≤ w.heap.size + 1 := by omega
  have hsz : w.heap.size = w.heap.size := rfl
  obtain ⟨sz, hsz⟩ : ∃ s, w.heap.size = s := ⟨_, rfl⟩
  have HSZ := Lib.hid hsz
  generalize World.alloc _ _ = w1 at hB hP hF H1 ⊢
  rw [hsz] at hnb hP hB ⊢
  generalize sz + 1 = bP at hP hnb ⊢
  have NB : Hid (w.heap.size ≤ bP) := Lib.hid (by rw [hsz]; exact hnb)
  clear hsz hnb
  generalize sz = bA at hB HSZ ⊢
  have HB := Lib.hid hB
  have HP := Lib.hid hP
  have HF := Lib.hid hF
  have H := Lib.hid H1
  have LP := Lib.hid (lt_of_heap hP)
  clear hB hP hF H1
  refine (r15find_any H.out ⟨m0, m1, m2, m3, m4, m5⟩).mono ?_
  rintro e w2 ⟨⟨z, rfl, hz⟩, f2⟩
  have H2 := Lib.hid (H.out.no f2)
  have F2 := Lib.hid (HF.out.trans f2)
  have P2 := Lib.hid (f2.heap HP.out (fun h => h))
  have hg := hz.get HS.out
  clear hz f2 HB HP HF H
  rcases hg with ⟨rfl, ha⟩ | ⟨i, e, rfl, hi, hm, ha⟩
  · have HN : Hid (o = none) := Lib.hid (by rw [← HO.out]; unfold afind; rw [ha]; rfl)
    obtain ⟨p0, p1⟩ := cells2 P2.out
    have z0 : w2.frozen? ⟨bP, 0, none⟩ = false := frozen_of_row w2 bP 0 _ _ P2.out
    have z1 : w2.frozen? ⟨bP, 1, none⟩ = false := frozen_of_row w2 bP 1 _ _ P2.out
    clear ha
    go_wp2_with fail
    have r2 := set_two (d0 := .bool false) (d1 := .int .i64 0) P2.out
    have f3 : Fr (Is bP) w2 ((w2.setCell ⟨bP, 0, none⟩ (.bool false)).setCell ⟨bP, 1, none⟩ (.int .i64 0)) := ((Fr.refl (Is bP) w2).setCell (p := ⟨bP, 0, none⟩) (.inl rfl) _).setCell (p := ⟨bP, 1, none⟩) (.inl rfl) _
    have F3 := Lib.hid (F2.out.then f3 (fun k hk (h : k = bP) => by have := NB.out; omega))
    clear p0 p1 z0 z1 f3
    generalize World.setCell _ _ _ = wz at r2 F3 ⊢
    obtain ⟨p0, p1⟩ := cells2 r2
    refine bodyPost_ret (v := .tuple #[.agg #[.bool false, .int .i64 0], .bool false]) (by simp [results, Tryd.results25, go_sem, p0, p1]) rfl ?_
    rw [HN.out]
    exact ⟨rfl, F3.out⟩
  · obtain ⟨⟨d0, d1, d2, d3, d4, d5⟩, et, en, ea, es⟩ := e
    have hin : i < n := by have := (List.getElem?_eq_some_iff.1 hi).1; have := H2.out.len; omega
    have HOK := Lib.hid (H2.out.ok _ (List.mem_of_getElem? hi))
    obtain ⟨gb, rfl⟩ := H2.out.some_ hin
    obtain ⟨y0, y1, y2, y3, y4, y5, y6, y7, y8, y9⟩ := e_cells H2.out.own.sl hi
    obtain ⟨k0, k1, k2⟩ := H2.out.cells
    obtain ⟨p0, p1⟩ := cells2 P2.out
    have z0 : w2.frozen? ⟨bP, 0, none⟩ = false := frozen_of_row w2 bP 0 _ _ P2.out
    have z1 : w2.frozen? ⟨bP, 1, none⟩ = false := frozen_of_row w2 bP 1 _ _ P2.out
    obtain ⟨q, hq⟩ : ∃ q, oldE life ⟨⟨d0, d1, d2, d3, d4, d5⟩, et, en, ea, es⟩ now = q := ⟨_, rfl⟩
    have HQ := Lib.hid hq
    have bi1 : (i : Int) < (n : Int) := by omega
    have bi0 : (0 : Int) ≤ (i : Int) := by omega
    have bi2 : decide ((i : Int) < 0) = false := decide_eq_false (by omega)
    have HN : Hid (o = if q = true then none else some ⟨et, en⟩) := Lib.hid (by rw [← HO.out, ← hq]; unfold afind; rw [ha]; rfl)
    clear ha hm hi hq k0 k1
    go_wp2_with fail
    refine (r15old_any H2.out.box (e := ⟨⟨d0, d1, d2, d3, d4, d5⟩, et, en, ea, es⟩) HOK.out hn0 hn1 HQ.out).mono ?_
    rintro e w3 ⟨rfl, f3⟩
    have H3 := Lib.hid (H2.out.no f3)
    have F3 := Lib.hid (F2.out.trans f3)
    have P3 := Lib.hid (f3.heap P2.out (fun h => h))
    obtain ⟨k0, k1, k2⟩ := H3.out.cells
    have y6 := f3.cell y6 (fun h => h)
    have y7 := f3.cell y7 (fun h => h)
    obtain ⟨p0, p1⟩ := cells2 P3.out
    have z0 : w3.frozen? ⟨bP, 0, none⟩ = false := frozen_of_row w3 bP 0 _ _ P3.out
    have z1 : w3.frozen? ⟨bP, 1, none⟩ = false := frozen_of_row w3 bP 1 _ _ P3.out
    clear f3 H2 F2 P2 y0 y1 y2 y3 y4 y5 y8 y9 k0 k1
    cases q with
    | true =>
      go_wp2_with fail
      have r2 := set_two (d0 := .bool false) (d1 := .int .i64 0) P3.out
      have f4 : Fr (Is bP) w3 ((w3.setCell ⟨bP, 0, none⟩ (.bool false)).setCell ⟨bP, 1, none⟩ (.int .i64 0)) := ((Fr.refl (Is bP) w3).setCell (p := ⟨bP, 0, none⟩) (.inl rfl) _).setCell (p := ⟨bP, 1, none⟩) (.inl rfl) _
      have F4 := Lib.hid (F3.out.then f4 (fun k hk (h : k = bP) => by have := NB.out; omega))
      clear p0 p1 z0 z1 f4
      generalize World.setCell _ _ _ = wz at r2 F4 ⊢
      obtain ⟨p0, p1⟩ := cells2 r2
      refine bodyPost_ret (v := .tuple #[.agg #[.bool false, .int .i64 0], .bool false]) (by simp [results, Tryd.results25, go_sem, p0, p1]) rfl ?_
      rw [HN.out]
      exact ⟨rfl, F4.out⟩
    | false =>
      go_wp2_with fail
      have r2 := set_two (d0 := .bool et) (d1 := .int .i64 en) P3.out
      have f4 : Fr (Is bP) w3 ((w3.setCell ⟨bP, 0, none⟩ (.bool et)).setCell ⟨bP, 1, none⟩ (.int .i64 en)) := ((Fr.refl (Is bP) w3).setCell (p := ⟨bP, 0, none⟩) (.inl rfl) _).setCell (p := ⟨bP, 1, none⟩) (.inl rfl) _
      have F4 := Lib.hid (F3.out.then f4 (fun k hk (h : k = bP) => by have := NB.out; omega))
      clear p0 p1 z0 z1 f4
      generalize World.setCell _ _ _ = wz at r2 F4 ⊢
      obtain ⟨p0, p1⟩ := cells2 r2
      refine bodyPost_ret (v := .tuple #[.agg #[.bool et, .int .i64 en], .bool true]) (by simp [results, Tryd.results25, go_sem, p0, p1]) rfl ?_
      rw [HN.out]
      exact ⟨rfl, F4.out⟩

set_option maxRecDepth 100000 in
set_option maxHeartbeats 4000000 in
theorem r15Forget_any {w : World} {rb n cap : Nat} {ao : Option Addr} {room life : Int} {rs : AL} (h : R15 w rb ao n cap room life rs) (p : Pl) (hl : rs.length ≤ 64) {c : Int} (hc : (rs.length : Int) - ((aforget rs p).length : Int) = c) :
    Calls Tryd.prog 21 #[.pointer (some ⟨rb, 0, none⟩), evPL p] w fun e w' => e = .returned (.int .i64 c) ∧ Res15 w rb ao room life (aforget rs p) w' := by
  obtain ⟨pt, pn⟩ := p
  have hB := heap_alloc_new w (.cells #[.bool pt, .int .i64 pn] 48)
  have hF := (Fr.refl No w).alloc (.cells #[.bool pt, .int .i64 pn] 48)
  have H1 := h.no hF
  have hrb : rb ≠ w.heap.size := fun e => by have := lt_of_heap h.box; omega
  have hsep : ∀ a, ao = some a → a.block ≠ w.heap.size := fun a ha e => by have := h.own.lt a ha; omega
  have hlen := h.len
  have HC := Lib.hid hc
  obtain ⟨F, hFF⟩ : ∃ F : En → Bool, (fun e : En => !decide (e.pl = ⟨pt, pn⟩)) = F := ⟨_, rfl⟩
  have HAF : Hid (aforget rs ⟨pt, pn⟩ = rs.filter F) := Lib.hid (by rw [← hFF]; rfl)
  have HFE : Hid (∀ e : En, F e = !decide (e.pl = ⟨pt, pn⟩)) := Lib.hid (fun e => by rw [← hFF])
  obtain ⟨k0, k1, k2⟩ := H1.cells
  have HLEN := Lib.hid hlen
  clear h hc hFF hlen
  unfold evPL
  simp only
  go_enter Tryd.func21, Tryd.ntmps21
  go_wp2_with fail
  generalize World.alloc _ _ = w1 at hB hF H1 k0 k1 k2 ⊢
  generalize w.heap.size = bP at hB hrb hsep ⊢
  have HB := Lib.hid hB
  have HF := Lib.hid hF
  have H := Lib.hid H1
  clear hB hF H1 k0 k1 k2
  go_loopw [5, 6] (fun t5 t6 wr => ∃ (i : Nat) (cn : Int), i ≤ rs.length ∧ t6 = .int .i64 i ∧ t5 = .int .i64 cn ∧ cn = gone F rs i ∧ Res15 w1 rb ao room life (G15 F rs i) wr) (fun _ t6 _ => (intOf t6).toNat)
  case atStart => exact ⟨n, 0, by rw [HLEN.out]; exact Nat.le_refl _, rfl, rfl, by rw [HLEN.out, gone.all], by rw [HLEN.out, G15.all]; exact Res15.same H.out (Fr.refl _ _)⟩
  case round =>
    obtain ⟨i, cn, hi, rfl, rfl, hcn, hres⟩ := hrel
    have HCN := Lib.hid hcn
    have HRES := Lib.hid hres
    have hcl := gone.le F rs i
    rw [← hcn] at hcl
    obtain ⟨cl0, cl1⟩ := hcl
    have hgl := G15.len F hi
    obtain ⟨gl0, gl1⟩ := hgl
    obtain ⟨ao1, n1, cap1, R, hd, fr⟩ := hres
    have R1 := Lib.hid R
    have hn1 := R.len
    have hc1 := R.own.le
    have hc2 := R.own.capLe
    have B1 := Lib.hid (fr.heap HB.out (by rintro (h | ⟨a, ha, h⟩); exact hrb h.symm; exact hsep a ha h))
    obtain ⟨k0, k1, k2⟩ := R.cells
    obtain ⟨p0, p1⟩ := cells2 B1.out
    have HN1 := Lib.hid hn1
    clear hcn fr hd R k0 k1
    by_cases h0 : 0 < i
    · obtain ⟨j, hj⟩ : ∃ j, i = j + 1 := ⟨i - 1, by omega⟩
      have hjn : j < n1 := by omega
      obtain ⟨y, hy⟩ : ∃ y, rs[j]? = some y := ⟨rs[j]'(by omega), List.getElem?_eq_getElem _⟩
      have hgy := G15.get F hy
      rw [← hj] at hgy
      obtain ⟨gb, rfl⟩ := R1.out.some_ hjn
      obtain ⟨⟨d0, d1, d2, d3, d4, d5⟩, et, en, ea, es⟩ := y
      obtain ⟨-, -, -, -, -, -, y6, y7, -⟩ := e_cells R1.out.own.sl hgy
      have hij : (i : Int) - 1 = (j : Int) := by omega
      have hwj : IntKind.i64.wrap ((i : Int) - 1) = (j : Int) := by rw [IntKind.wrap_i64]; omega
      have bj0 : (0 : Int) ≤ (j : Int) := by omega
      have bj1 : (j : Int) < (n1 : Int) := by omega
      have bi0 : (0 : Int) < (i : Int) := by omega
      obtain ⟨q, hq⟩ : ∃ q, decide ((⟨et, en⟩ : Pl) = ⟨pt, pn⟩) = q := ⟨_, rfl⟩
      have hpl : ∀ W, (binOp .eql 48 (.agg #[.bool et, .int .i64 en]) (.agg #[.bool pt, .int .i64 pn])).run Tryd.prog W = .ok (.bool q) W := fun W => by rw [← hq]; exact eqP15 ⟨et, en⟩ ⟨pt, pn⟩ W
      have HFY : Hid (F ⟨⟨d0, d1, d2, d3, d4, d5⟩, et, en, ea, es⟩ = !q) := Lib.hid (by rw [HFE.out, ← hq]; rfl)
      have HY := Lib.hid hy
      have HJ := Lib.hid hj
      have HST := Lib.hid (gone.step F hy)
      clear hy hgy hj hq hn1
      cases q with
      | false =>
        have HK := Lib.hid (G15.keep F HY.out HFY.out)
        go_wp2_with fail
        go_quiet (fail)
        clear hpl y6 y7 k2 p0 p1 hwj
        go_wp2_with fail
        go_roundw
        case rel => exact ⟨j, cn, by omega, by go_num, rfl, by rw [HST.out, HFY.out, HCN.out, HJ.out]; simp, by rw [HK.out, ← HJ.out]; exact HRES.out.to ((Fr.refl _ _).drewN _)⟩
        case measure => simp [intOf]; omega
      | true =>
        have HK := Lib.hid (G15.cut F HY.out HFY.out)
        go_wp2_with fail
        go_quiet (fail)
        generalize hw2 : World.drewN _ _ = w2
        have F2 := Lib.hid (show Fr No wr w2 by rw [← hw2]; exact (Fr.refl _ _).drewN _)
        clear hw2 hpl y6 y7 k2 p0 p1 hwj
        go_wp2_with fail
        refine (r15cut_any (R1.out.no F2.out) hjn (by omega)).mono ?_
        rintro e w3 ⟨rfl, hp⟩
        have HP : Hid (Put15 w2 rb room life (G15 F rs j) w3) := Lib.hid (by rw [HJ.out, HK.out] at hp; exact hp)
        clear hp
        go_wp2_with fail
        go_roundw
        case rel => exact ⟨j, cn + 1, by omega, by go_num, rfl, by rw [HST.out, HFY.out, HCN.out, HJ.out]; simp, (HRES.out.to F2.out).put HP.out⟩
        case measure => simp [intOf]; omega
    · have hi0 : i = 0 := by omega
      subst hi0
      go_wp2_with fail
      go_ret
      refine ⟨?_, ?_⟩
      · rw [← HC.out, HAF.out, HCN.out, gone.zero]; rfl
      · rw [HAF.out, ← G15.zero]
        exact Res15.from HF.out HRES.out

set_option maxRecDepth 100000 in
set_option maxHeartbeats 4000000 in
theorem r15Tick_any {w : World} {rb n cap : Nat} {ao : Option Addr} {room life : Int} {rs : AL} (h : R15 w rb ao n cap room life rs) {now : Int} (hn0 : 0 ≤ now) (hn1 : now < 18446744073709551616) (hl : rs.length ≤ 64) {c : Int} (hc : (rs.length : Int) - ((atick life rs now).length : Int) = c) :
    Calls Tryd.prog 24 #[.pointer (some ⟨rb, 0, none⟩), .int .u64 now] w fun e w' => e = .returned (.int .i64 c) ∧ Res15 w rb ao room life (atick life rs now) w' := by
  have hlen := h.len
  have HC := Lib.hid hc
  obtain ⟨F, hFF⟩ : ∃ F : En → Bool, (fun e : En => !oldE life e now) = F := ⟨_, rfl⟩
  have HAF : Hid (atick life rs now = rs.filter F) := Lib.hid (by rw [← hFF]; rfl)
  have HFE : Hid (∀ e : En, F e = !oldE life e now) := Lib.hid (fun e => by rw [← hFF])
  obtain ⟨k0, k1, k2⟩ := h.cells
  have HLEN := Lib.hid hlen
  have H := Lib.hid h
  clear h hc hFF hlen k0 k1
  go_enter Tryd.func24, Tryd.ntmps24
  go_wp2_with fail
  clear k2
  go_loopw [5, 6] (fun t5 t6 wr => ∃ (i : Nat) (cn : Int), i ≤ rs.length ∧ t6 = .int .i64 i ∧ t5 = .int .i64 cn ∧ cn = gone F rs i ∧ Res15 w rb ao room life (G15 F rs i) wr) (fun _ t6 _ => (intOf t6).toNat)
  case atStart => exact ⟨n, 0, by rw [HLEN.out]; exact Nat.le_refl _, rfl, rfl, by rw [HLEN.out, gone.all], by rw [HLEN.out, G15.all]; exact Res15.same H.out (Fr.refl _ _)⟩
  case round =>
    obtain ⟨i, cn, hi, rfl, rfl, hcn, hres⟩ := hrel
    have HCN := Lib.hid hcn
    have HRES := Lib.hid hres
    have hcl := gone.le F rs i
    rw [← hcn] at hcl
    obtain ⟨cl0, cl1⟩ := hcl
    have hgl := G15.len F hi
    obtain ⟨gl0, gl1⟩ := hgl
    obtain ⟨ao1, n1, cap1, R, hd, fr⟩ := hres
    have R1 := Lib.hid R
    have hn1' := R.len
    have hc1 := R.own.le
    have hc2 := R.own.capLe
    obtain ⟨k0, k1, k2⟩ := R.cells
    have HN1 := Lib.hid hn1'
    clear hcn fr hd R k0 k1
    by_cases h0 : 0 < i
    · obtain ⟨j, hj⟩ : ∃ j, i = j + 1 := ⟨i - 1, by omega⟩
      have hjn : j < n1 := by omega
      obtain ⟨y, hy⟩ : ∃ y, rs[j]? = some y := ⟨rs[j]'(by omega), List.getElem?_eq_getElem _⟩
      have hgy := G15.get F hy
      rw [← hj] at hgy
      obtain ⟨gb, rfl⟩ := R1.out.some_ hjn
      obtain ⟨⟨d0, d1, d2, d3, d4, d5⟩, et, en, ea, es⟩ := y
      obtain ⟨y0, y1, y2, y3, y4, y5, y6, y7, y8, y9⟩ := e_cells R1.out.own.sl hgy
      have HOK := Lib.hid (R1.out.ok _ (List.mem_of_getElem? hgy))
      have hij : (i : Int) - 1 = (j : Int) := by omega
      have bj0 : (0 : Int) ≤ (j : Int) := by omega
      have bj1 : (j : Int) < (n1 : Int) := by omega
      have bi0 : (0 : Int) < (i : Int) := by omega
      obtain ⟨q, hq⟩ : ∃ q, oldE life ⟨⟨d0, d1, d2, d3, d4, d5⟩, et, en, ea, es⟩ now = q := ⟨_, rfl⟩
      have HFY : Hid (F ⟨⟨d0, d1, d2, d3, d4, d5⟩, et, en, ea, es⟩ = !q) := Lib.hid (by rw [HFE.out, ← hq])
      have HQ := Lib.hid hq
      have HY := Lib.hid hy
      have HJ := Lib.hid hj
      have HST := Lib.hid (gone.step F hy)
      clear hy hgy hj hq hn1'
      go_wp2_with fail
      refine (r15old_any R1.out.box (e := ⟨⟨d0, d1, d2, d3, d4, d5⟩, et, en, ea, es⟩) HOK.out hn0 hn1 HQ.out).mono ?_
      rintro e w2 ⟨rfl, f2⟩
      have F2 := Lib.hid f2
      clear f2 y0 y1 y2 y3 y4 y5 y6 y7 y8 y9 k2
      cases q with
      | false =>
        have HK := Lib.hid (G15.keep F HY.out HFY.out)
        go_wp2_with fail
        go_roundw
        case rel => exact ⟨j, cn, by omega, by go_num, rfl, by rw [HST.out, HFY.out, HCN.out, HJ.out]; simp, by rw [HK.out, ← HJ.out]; exact HRES.out.to F2.out⟩
        case measure => simp [intOf]; omega
      | true =>
        have HK := Lib.hid (G15.cut F HY.out HFY.out)
        go_wp2_with fail
        refine (r15cut_any (R1.out.no F2.out) hjn (by omega)).mono ?_
        rintro e w3 ⟨rfl, hp⟩
        have HP : Hid (Put15 w2 rb room life (G15 F rs j) w3) := Lib.hid (by rw [HJ.out, HK.out] at hp; exact hp)
        clear hp
        go_wp2_with fail
        go_roundw
        case rel => exact ⟨j, cn + 1, by omega, by go_num, rfl, by rw [HST.out, HFY.out, HCN.out, HJ.out]; simp, (HRES.out.to F2.out).put HP.out⟩
        case measure => simp [intOf]; omega
    · have hi0 : i = 0 := by omega
      subst hi0
      go_wp2_with fail
      go_ret
      refine ⟨?_, ?_⟩
      · rw [← HC.out, HAF.out, HCN.out, gone.zero]; rfl
      · rw [HAF.out, ← G15.zero]
        exact HRES.out

/-- An entry of the row is written over. -/
theorem set_flatE (rs : AL) (i : Nat) (r : En) (hi : i < rs.length) :
    ((((((((((rs.flatMap encE).set (i * 10) (byteV r.mac.a)).set (i * 10 + 1) (byteV r.mac.b)).set (i * 10 + 2) (byteV r.mac.c)).set (i * 10 + 3) (byteV r.mac.d)).set (i * 10 + 4) (byteV r.mac.e)).set (i * 10 + 5) (byteV r.mac.f)).set (i * 10 + 6) (.bool r.tun)).set (i * 10 + 7) (.int .i64 r.n)).set (i * 10 + 8) (.int .u64 r.at_)).set (i * 10 + 9) (.bool r.st) = (rs.set i r).flatMap encE := by
  induction rs generalizing i with
  | nil => simp at hi
  | cons x l ih =>
    cases i with
    | zero => simp [encE]
    | succ i =>
      have := ih i (by simpa using hi)
      rw [List.set_cons_succ, List.flatMap_cons, List.flatMap_cons, ← this]
      have h4 : (encE x).length = 10 := rfl
      rw [show (i + 1) * 10 = 10 + i * 10 by omega]
      simp [List.set_append, h4, Nat.add_assoc]
def setEn (w : World) (g i : Nat) (r : En) : World :=
  (((((((((w.setCell ⟨g, i * 10, none⟩ (byteV r.mac.a)).setCell ⟨g, i * 10 + 1, none⟩ (byteV r.mac.b)).setCell ⟨g, i * 10 + 2, none⟩ (byteV r.mac.c)).setCell ⟨g, i * 10 + 3, none⟩ (byteV r.mac.d)).setCell ⟨g, i * 10 + 4, none⟩ (byteV r.mac.e)).setCell ⟨g, i * 10 + 5, none⟩ (byteV r.mac.f)).setCell ⟨g, i * 10 + 6, none⟩ (.bool r.tun)).setCell ⟨g, i * 10 + 7, none⟩ (.int .i64 r.n)).setCell ⟨g, i * 10 + 8, none⟩ (.int .u64 r.at_)).setCell ⟨g, i * 10 + 9, none⟩ (.bool r.st)
theorem R15.over {w : World} {rb g n cap : Nat} {room life : Int} {rs : AL} (h : R15 w rb (some ⟨g, 0, none⟩) n cap room life rs) {i : Nat} (hi : i < n) {r : En} (hr : r.ok) : Res15 w rb (some ⟨g, 0, none⟩) room life (rs.set i r) (setEn w g i r) := by
  have st : ∀ (W : World) (j : Nat) (u : Value), Fr (Is g) w W → Fr (Is g) w (W.setCell ⟨g, j, none⟩ u) := fun W j u f => f.setCell (p := ⟨g, j, none⟩) (.inl rfl) u
  have f : Fr (Is g) w (setEn w g i r) := st _ _ _ (st _ _ _ (st _ _ _ (st _ _ _ (st _ _ _ (st _ _ _ (st _ _ _ (st _ _ _ (st _ _ _ (st _ _ _ (Fr.refl _ _))))))))))
  have o := (((((((((h.own.setCell (j := i * 10) (byteV r.mac.a)).setCell (j := i * 10 + 1) (byteV r.mac.b)).setCell (j := i * 10 + 2) (byteV r.mac.c)).setCell (j := i * 10 + 3) (byteV r.mac.d)).setCell (j := i * 10 + 4) (byteV r.mac.e)).setCell (j := i * 10 + 5) (byteV r.mac.f)).setCell (j := i * 10 + 6) (.bool r.tun)).setCell (j := i * 10 + 7) (.int .i64 r.n)).setCell (j := i * 10 + 8) (.int .u64 r.at_)).setCell (j := i * 10 + 9) (.bool r.st)
  rw [set_flatE rs i r (by rw [← h.len]; exact hi)] at o
  refine ⟨some ⟨g, 0, none⟩, n, cap, ⟨f.heap h.box (fun e => h.sep _ rfl e), by rw [List.length_set]; exact h.len, o, fun e he => ?_⟩, .inl rfl, f.mono (fun k _ hk => .inr ⟨_, rfl, hk.symm⟩)⟩
  obtain ⟨j, hj⟩ := List.mem_iff_getElem?.1 he
  rw [List.getElem?_set] at hj
  split at hj
  · split at hj
    · cases hj; exact hr
    · cases hj
  · exact h.ok e (List.mem_of_getElem? hj)
end Go.Proofs.YtgmaelndhmnjiaaDoor
namespace Go.Proofs.YtgmaelndhmnjiaaDoor
open Go.RowKit
set_option linter.unusedVariables false
set_option linter.unusedSimpArgs false

theorem R15.ten {w : World} {rb g n cap : Nat} {room life : Int} {rs : AL} (h : R15 w rb (some ⟨g, 0, none⟩) n cap room life rs) {i : Nat} (hi : i < n) :
    (∃ c, w.cell? ⟨g, i * 10, none⟩ = some c) ∧ (∃ c, w.cell? ⟨g, i * 10 + 1, none⟩ = some c) ∧ (∃ c, w.cell? ⟨g, i * 10 + 2, none⟩ = some c) ∧ (∃ c, w.cell? ⟨g, i * 10 + 3, none⟩ = some c) ∧ (∃ c, w.cell? ⟨g, i * 10 + 4, none⟩ = some c) ∧
    (∃ c, w.cell? ⟨g, i * 10 + 5, none⟩ = some c) ∧ (∃ c, w.cell? ⟨g, i * 10 + 6, none⟩ = some c) ∧ (∃ c, w.cell? ⟨g, i * 10 + 7, none⟩ = some c) ∧ (∃ c, w.cell? ⟨g, i * 10 + 8, none⟩ = some c) ∧ (∃ c, w.cell? ⟨g, i * 10 + 9, none⟩ = some c) := by
  obtain ⟨e, he⟩ : ∃ e, rs[i]? = some e := ⟨rs[i]'(by rw [← h.len]; exact hi), List.getElem?_eq_getElem _⟩
  obtain ⟨⟨a0, a1, a2, a3, a4, a5⟩, et, en, ea, es⟩ := e
  obtain ⟨y0, y1, y2, y3, y4, y5, y6, y7, y8, y9⟩ := e_cells h.own.sl he
  exact ⟨⟨_, y0⟩, ⟨_, y1⟩, ⟨_, y2⟩, ⟨_, y3⟩, ⟨_, y4⟩, ⟨_, y5⟩, ⟨_, y6⟩, ⟨_, y7⟩, ⟨_, y8⟩, ⟨_, y9⟩⟩
set_option maxRecDepth 100000 in
set_option maxHeartbeats 8000000 in
theorem r15Learn_any {w : World} {rb n cap : Nat} {ao : Option Addr} {room life : Int} {rs : AL} (h : R15 w rb ao n cap room life rs) (hs : Sor rs) (m : Mac) (p : Pl) {now : Int} (hn0 : 0 ≤ now) (hn1 : now < 18446744073709551616) (hp : -9223372036854775808 ≤ p.n ∧ p.n ≤ 9223372036854775807) (hl : rs.length ≤ 64)
    {b : Bool} {c : Int} {A' : AL} (hr : alearn room rs m p now = (b, c, A')) :
    Calls Tryd.prog 16 #[.pointer (some ⟨rb, 0, none⟩), evM m, evPL p, .int .u64 now] w fun e w' => e = .returned (.tuple #[.bool b, .int .i64 c]) ∧ Res15 w rb ao room life A' w' := by
  obtain ⟨m0, m1, m2, m3, m4, m5⟩ := m
  obtain ⟨pt, pn⟩ := p
  have hc1 := h.own.le
  have hc2 := h.own.capLe
  have hB := ((Fr.refl No _).alloc (.cells #[.bool pt, .int .i64 pn] 48)).heap (heap_alloc_new w (.cells #[.int .u8 (m0.toNat : Int), .int .u8 (m1.toNat : Int), .int .u8 (m2.toNat : Int), .int .u8 (m3.toNat : Int), .int .u8 (m4.toNat : Int), .int .u8 (m5.toNat : Int)] 31)) (fun h => h)
  have hP := heap_alloc_new (w.alloc (.cells #[.int .u8 (m0.toNat : Int), .int .u8 (m1.toNat : Int), .int .u8 (m2.toNat : Int), .int .u8 (m3.toNat : Int), .int .u8 (m4.toNat : Int), .int .u8 (m5.toNat : Int)] 31)) (.cells #[.bool pt, .int .i64 pn] 48)
  simp only [World.size_alloc] at hP
  have hF := ((Fr.refl No w).alloc (.cells #[.int .u8 (m0.toNat : Int), .int .u8 (m1.toNat : Int), .int .u8 (m2.toNat : Int), .int .u8 (m3.toNat : Int), .int .u8 (m4.toNat : Int), .int .u8 (m5.toNat : Int)] 31)).alloc (.cells #[.bool pt, .int .i64 pn] 48)
  have H1 := h.no hF
  have HR := Lib.hid hr
  have HS := Lib.hid hs
  have HPN := Lib.hid hp
  clear h hr hs hp
  unfold evM evPL byteV
  simp only
  go_enter Tryd.func16, Tryd.ntmps16
  go_wp2_with fail
  generalize World.alloc _ _ = w1 at hB hP hF H1 ⊢
  generalize w.heap.size + 1 = bP at hP ⊢
  generalize w.heap.size = bA at hB ⊢
  have HB := Lib.hid hB
  have HP := Lib.hid hP
  have HF := Lib.hid hF
  have H := Lib.hid H1
  clear hB hP hF H1
  obtain ⟨g, hg⟩ : ∃ g, grpM ⟨m0, m1, m2, m3, m4, m5⟩ = g := ⟨_, rfl⟩
  refine (r15Group_any ⟨m0, m1, m2, m3, m4, m5⟩ _ hg).mono ?_
  rintro e w2 ⟨rfl, f2⟩
  have H2 := Lib.hid (H.out.no f2)
  have F2 := Lib.hid (HF.out.trans f2)
  have B2 := Lib.hid (f2.heap HB.out (fun h => h))
  have P2 := Lib.hid (f2.heap HP.out (fun h => h))
  have HG := Lib.hid hg
  clear H HF HB HP f2 hg
  cases g with
  | true =>
    have HA : Hid (b = false ∧ c = 1 ∧ A' = rs) := Lib.hid (by have h := HR.out; unfold alearn at h; rw [if_pos HG.out] at h; cases h; exact ⟨rfl, rfl, rfl⟩)
    go_wp2_with fail
    go_ret2
    refine ⟨by rw [HA.out.1, HA.out.2.1]; rfl, ?_⟩
    rw [HA.out.2.2]
    exact Res15.from F2.out (Res15.same H2.out (Fr.refl _ _))
  | false =>
    obtain ⟨a0, a1, a2, a3, a4, a5⟩ := cells6 B2.out
    go_wp2_with fail
    refine (r15find_any H2.out ⟨m0, m1, m2, m3, m4, m5⟩).mono ?_
    rintro e w3 ⟨⟨z, rfl, hz⟩, f3⟩
    have H3 := Lib.hid (H2.out.no f3)
    have F3 := Lib.hid (F2.out.trans f3)
    have B3 := Lib.hid (f3.heap B2.out (fun h => h))
    have P3 := Lib.hid (f3.heap P2.out (fun h => h))
    have hga := hz.get HS.out
    clear H2 F2 B2 P2 f3 hz a0 a1 a2 a3 a4 a5
    obtain ⟨a0, a1, a2, a3, a4, a5⟩ := cells6 B3.out
    obtain ⟨p0, p1⟩ := cells2 P3.out
    rcases hga with ⟨rfl, ha⟩ | ⟨i, e, rfl, hi, hm, ha⟩
    · have HAR : Hid (b = false ∧ aadd room rs ⟨⟨m0, m1, m2, m3, m4, m5⟩, pt, pn, now, false⟩ = (c, A')) := Lib.hid (by
        have h := HR.out
        unfold alearn at h
        rw [if_neg (by rw [HG.out]; simp), ha] at h
        simp only at h
        have h2 := congrArg Prod.fst h
        have h3 := congrArg Prod.snd h
        exact ⟨h2.symm, h3⟩)
      have HAN := Lib.hid ha
      clear ha
      go_wp2_with fail
      refine (r15add_any H3.out HS.out (e := ⟨⟨m0, m1, m2, m3, m4, m5⟩, pt, pn, now, false⟩) ⟨HPN.out, hn0, hn1⟩ HAN.out hl HAR.out.2).mono ?_
      rintro e w4 ⟨rfl, hres⟩
      have RS := Lib.hid (Res15.from F3.out hres)
      clear hres
      go_wp2_with fail
      go_ret2
      exact ⟨by rw [HAR.out.1]; rfl, RS.out⟩
    · obtain ⟨⟨d0, d1, d2, d3, d4, d5⟩, et, en, ea, es⟩ := e
      have hin : i < n := by have := (List.getElem?_eq_some_iff.1 hi).1; have := H3.out.len; omega
      obtain ⟨gb, rfl⟩ := H3.out.some_ hin
      obtain ⟨y0, y1, y2, y3, y4, y5, y6, y7, y8, y9⟩ := e_cells H3.out.own.sl hi
      obtain ⟨k0, k1, k2⟩ := H3.out.cells
      have bi1 : (i : Int) < (n : Int) := by omega
      have bi0 : (0 : Int) ≤ (i : Int) := by omega
      have bi2 : ¬ (i : Int) < 0 := by omega
      obtain ⟨q, hq⟩ : ∃ q, decide ((⟨et, en⟩ : Pl) = ⟨pt, pn⟩) = q := ⟨_, rfl⟩
      have hpl : ∀ W, (binOp .neq 48 (.agg #[.bool et, .int .i64 en]) (.agg #[.bool pt, .int .i64 pn])).run Tryd.prog W = .ok (.bool (!q)) W := fun W => by rw [← hq]; exact neqP15 ⟨et, en⟩ ⟨pt, pn⟩ W
      have HAR : Hid (b = !q ∧ c = 0 ∧ A' = if es = true then rs else rs.set i ⟨⟨m0, m1, m2, m3, m4, m5⟩, pt, pn, now, false⟩) := Lib.hid (by
        have h := HR.out
        unfold alearn at h
        rw [if_neg (by rw [HG.out]; simp), ha] at h
        simp only at h
        have h2 := congrArg Prod.fst h
        have h3 := congrArg Prod.fst (congrArg Prod.snd h)
        have h4 := congrArg Prod.snd (congrArg Prod.snd h)
        simp only at h2 h3 h4
        rw [aput_set HS.out hi (e := ⟨⟨m0, m1, m2, m3, m4, m5⟩, pt, pn, now, false⟩) hm] at h4
        exact ⟨by rw [← h2, ← hq]; rfl, h3.symm, h4.symm⟩)
      clear ha hm hq hi k0 k1
      go_wp2_with fail
      go_quiet (fail)
      generalize hw4 : World.drewN _ _ = w4
      have F4 := Lib.hid (show Fr No w3 w4 by rw [← hw4]; exact (Fr.refl _ _).drewN _)
      clear hw4 hpl
      have H4 := Lib.hid (H3.out.no F4.out)
      obtain ⟨a0, a1, a2, a3, a4, a5⟩ := cells6 (F4.out.heap B3.out (fun h => h))
      obtain ⟨p0, p1⟩ := cells2 (F4.out.heap P3.out (fun h => h))
      have y0 := F4.out.cell y0 (fun h => h)
      have y1 := F4.out.cell y1 (fun h => h)
      have y2 := F4.out.cell y2 (fun h => h)
      have y3 := F4.out.cell y3 (fun h => h)
      have y4 := F4.out.cell y4 (fun h => h)
      have y5 := F4.out.cell y5 (fun h => h)
      have y6 := F4.out.cell y6 (fun h => h)
      have y7 := F4.out.cell y7 (fun h => h)
      have y8 := F4.out.cell y8 (fun h => h)
      have y9 := F4.out.cell y9 (fun h => h)
      have k2 := F4.out.cell k2 (fun h => h)
      cases es with
      | true =>
        have HA2 : Hid (A' = rs) := Lib.hid (HAR.out.2.2.trans (if_pos rfl))
        go_wp2_with fail
        go_ret2
        refine ⟨by rw [HAR.out.1, HAR.out.2.1]; rfl, ?_⟩
        rw [HA2.out]
        exact Res15.from F3.out (Res15.same H3.out F4.out)
      | false =>
        have z0 := H4.out.own.free1 (i * 10)
        have z1 := H4.out.own.free1 (i * 10 + 1)
        have z2 := H4.out.own.free1 (i * 10 + 2)
        have z3 := H4.out.own.free1 (i * 10 + 3)
        have z4 := H4.out.own.free1 (i * 10 + 4)
        have z5 := H4.out.own.free1 (i * 10 + 5)
        have z6 := H4.out.own.free1 (i * 10 + 6)
        have z7 := H4.out.own.free1 (i * 10 + 7)
        have z8 := H4.out.own.free1 (i * 10 + 8)
        have z9 := H4.out.own.free1 (i * 10 + 9)
        have HA2 : Hid (A' = rs.set i ⟨⟨m0, m1, m2, m3, m4, m5⟩, pt, pn, now, false⟩) := Lib.hid (HAR.out.2.2.trans (if_neg (by simp)))
        clear z0 z1 z2 z3 z4 z5 z6 z7 z8 z9
        go_wp2_with fail
        clear y0 y1 y2 y3 y4 y5 y6 y7 y8 y9
        go_still_tail 10, (by kernel_rfl)
        repeat still_step
        try refine wpStill_nil ?_
        change wpList _ _ _ _ _ w4.drew
        generalize hw5 : w4.drew = w5
        have H5 := Lib.hid (show R15 w5 rb (some ⟨gb, 0, none⟩) n cap room life rs by rw [← hw5]; exact H3.out.no (F4.out.drew))
        have F5 := Lib.hid (show Fr No w3 w5 by rw [← hw5]; exact F4.out.drew)
        clear hw5 a0 a1 a2 a3 a4 a5 p0 p1 k2
        obtain ⟨⟨c0, hc0⟩, ⟨c1, hc1⟩, ⟨c2, hc2⟩, ⟨c3, hc3⟩, ⟨c4, hc4⟩, ⟨c5, hc5⟩, ⟨c6, hc6⟩, ⟨c7, hc7⟩, ⟨c8, hc8⟩, ⟨c9, hc9⟩⟩ := H5.out.ten hin
        have z0 := H5.out.own.free1 (i * 10)
        have z1 := H5.out.own.free1 (i * 10 + 1)
        have z2 := H5.out.own.free1 (i * 10 + 2)
        have z3 := H5.out.own.free1 (i * 10 + 3)
        have z4 := H5.out.own.free1 (i * 10 + 4)
        have z5 := H5.out.own.free1 (i * 10 + 5)
        have z6 := H5.out.own.free1 (i * 10 + 6)
        have z7 := H5.out.own.free1 (i * 10 + 7)
        have z8 := H5.out.own.free1 (i * 10 + 8)
        have z9 := H5.out.own.free1 (i * 10 + 9)
        have fin : Res15 w rb (some ⟨gb, 0, none⟩) room life A' (setEn w5 gb i ⟨⟨m0, m1, m2, m3, m4, m5⟩, pt, pn, now, false⟩) := by
          rw [HA2.out]
          exact Res15.from (F3.out.trans F5.out) (R15.over H5.out hin ⟨HPN.out, hn0, hn1⟩)
        unfold setEn byteV at fin
        simp only at fin
        have FIN := Lib.hid fin
        clear fin
        go_wp2_with fail
        go_ret2
        exact ⟨by rw [HAR.out.1, HAR.out.2.1]; rfl, FIN.out⟩
end Go.Proofs.YtgmaelndhmnjiaaDoor
namespace Go.Proofs.YtgmaelndhmnjiaaDoor
open Go.RowKit
set_option linter.unusedVariables false
set_option linter.unusedSimpArgs false

set_option maxRecDepth 100000 in
set_option maxHeartbeats 2000000 in
theorem r15Drop_any {w : World} {rb n cap : Nat} {ao : Option Addr} {room life : Int} {rs : AL} (h : R15 w rb ao n cap room life rs) (hs : Sor rs) (m : Mac) (hl : rs.length ≤ 64) {b : Bool} (hb : (aget rs m).isSome = b) :
    Calls Tryd.prog 23 #[.pointer (some ⟨rb, 0, none⟩), evM m] w fun e w' => e = .returned (.bool b) ∧ Res15 w rb ao room life (adel rs m) w' := by
  obtain ⟨m0, m1, m2, m3, m4, m5⟩ := m
  have hc1 := h.own.le
  have hc2 := h.own.capLe
  have hF := (Fr.refl No w).alloc (.cells #[.int .u8 (m0.toNat : Int), .int .u8 (m1.toNat : Int), .int .u8 (m2.toNat : Int), .int .u8 (m3.toNat : Int), .int .u8 (m4.toNat : Int), .int .u8 (m5.toNat : Int)] 31)
  have H1 := h.no hF
  have HB := Lib.hid hb
  have HS := Lib.hid hs
  clear h hb hs
  unfold evM byteV
  simp only
  go_enter Tryd.func23, Tryd.ntmps23
  go_wp2_with fail
  generalize World.alloc _ _ = w1 at hF H1 ⊢
  have HF := Lib.hid hF
  have H := Lib.hid H1
  clear hF H1
  refine (r15find_any H.out ⟨m0, m1, m2, m3, m4, m5⟩).mono ?_
  rintro e w2 ⟨⟨z, rfl, hz⟩, f2⟩
  have H2 := Lib.hid (H.out.no f2)
  have F2 := Lib.hid (HF.out.trans f2)
  have hg := hz.get HS.out
  clear hz f2 HF H
  rcases hg with ⟨rfl, ha⟩ | ⟨i, e, rfl, hi, hm, ha⟩
  · have HBF : Hid (b = false) := Lib.hid (by rw [← HB.out, ha]; rfl)
    have HD : Hid (adel rs ⟨m0, m1, m2, m3, m4, m5⟩ = rs) := Lib.hid (List.filter_eq_self.2 (fun x hx => by simpa using aget_none.1 ha x hx))
    clear ha
    go_wp2_with fail
    go_ret
    refine ⟨by rw [HBF.out]; rfl, ?_⟩
    rw [HD.out]
    exact Res15.from F2.out (Res15.same H2.out (Fr.refl _ _))
  · have HBF : Hid (b = true) := Lib.hid (by rw [← HB.out, ha]; rfl)
    have HD : Hid (adel rs ⟨m0, m1, m2, m3, m4, m5⟩ = rs.take i ++ rs.drop (i + 1)) := Lib.hid (by rw [← hm]; exact adel_cut HS.out hi)
    have hin : i < n := by have := (List.getElem?_eq_some_iff.1 hi).1; have := H2.out.len; omega
    have bi0 : (0 : Int) ≤ (i : Int) := by omega
    have bi1 : ¬ (i : Int) < 0 := by omega
    clear ha hm hi
    go_wp2_with fail
    refine (r15cut_any H2.out hin hl).mono ?_
    rintro e w3 ⟨rfl, hp⟩
    have RS : Hid (Res15 w rb ao room life (adel rs ⟨m0, m1, m2, m3, m4, m5⟩) w3) := Lib.hid (by rw [HD.out]; exact Res15.from F2.out hp.res)
    clear hp
    go_wp2_with fail
    go_ret
    exact ⟨by rw [HBF.out]; rfl, RS.out⟩

set_option maxRecDepth 100000 in
set_option maxHeartbeats 8000000 in
theorem r15Static_any {w : World} {rb n cap : Nat} {ao : Option Addr} {room life : Int} {rs : AL} (h : R15 w rb ao n cap room life rs) (hs : Sor rs) (m : Mac) (p : Pl) (hp : -9223372036854775808 ≤ p.n ∧ p.n ≤ 9223372036854775807) (hl : rs.length ≤ 64)
    {c : Int} {A' : AL} (hr : astatic room rs m p = (c, A')) :
    Calls Tryd.prog 19 #[.pointer (some ⟨rb, 0, none⟩), evM m, evPL p] w fun e w' => e = .returned (.int .i64 c) ∧ Res15 w rb ao room life A' w' := by
  obtain ⟨m0, m1, m2, m3, m4, m5⟩ := m
  obtain ⟨pt, pn⟩ := p
  have hc1 := h.own.le
  have hc2 := h.own.capLe
  have hB := ((Fr.refl No _).alloc (.cells #[.bool pt, .int .i64 pn] 48)).heap (heap_alloc_new w (.cells #[.int .u8 (m0.toNat : Int), .int .u8 (m1.toNat : Int), .int .u8 (m2.toNat : Int), .int .u8 (m3.toNat : Int), .int .u8 (m4.toNat : Int), .int .u8 (m5.toNat : Int)] 31)) (fun h => h)
  have hP := heap_alloc_new (w.alloc (.cells #[.int .u8 (m0.toNat : Int), .int .u8 (m1.toNat : Int), .int .u8 (m2.toNat : Int), .int .u8 (m3.toNat : Int), .int .u8 (m4.toNat : Int), .int .u8 (m5.toNat : Int)] 31)) (.cells #[.bool pt, .int .i64 pn] 48)
  simp only [World.size_alloc] at hP
  have hF := ((Fr.refl No w).alloc (.cells #[.int .u8 (m0.toNat : Int), .int .u8 (m1.toNat : Int), .int .u8 (m2.toNat : Int), .int .u8 (m3.toNat : Int), .int .u8 (m4.toNat : Int), .int .u8 (m5.toNat : Int)] 31)).alloc (.cells #[.bool pt, .int .i64 pn] 48)
  have H1 := h.no hF
  have HR := Lib.hid hr
  have HS := Lib.hid hs
  have HPN := Lib.hid hp
  clear h hr hs hp
  unfold evM evPL byteV
  simp only
  go_enter Tryd.func19, Tryd.ntmps19
  go_wp2_with fail
  generalize World.alloc _ _ = w1 at hB hP hF H1 ⊢
  generalize w.heap.size + 1 = bP at hP ⊢
  generalize w.heap.size = bA at hB ⊢
  have HB := Lib.hid hB
  have HP := Lib.hid hP
  have HF := Lib.hid hF
  have H := Lib.hid H1
  clear hB hP hF H1
  obtain ⟨g, hg⟩ : ∃ g, grpM ⟨m0, m1, m2, m3, m4, m5⟩ = g := ⟨_, rfl⟩
  refine (r15Group_any ⟨m0, m1, m2, m3, m4, m5⟩ _ hg).mono ?_
  rintro e w2 ⟨rfl, f2⟩
  have H2 := Lib.hid (H.out.no f2)
  have F2 := Lib.hid (HF.out.trans f2)
  have B2 := Lib.hid (f2.heap HB.out (fun h => h))
  have P2 := Lib.hid (f2.heap HP.out (fun h => h))
  have HG := Lib.hid hg
  clear H HF HB HP f2 hg
  cases g with
  | true =>
    have HA : Hid (c = 1 ∧ A' = rs) := Lib.hid (by have h := HR.out; unfold astatic at h; rw [if_pos HG.out] at h; cases h; exact ⟨rfl, rfl⟩)
    go_wp2_with fail
    go_ret
    refine ⟨by rw [HA.out.1]; rfl, ?_⟩
    rw [HA.out.2]
    exact Res15.from F2.out (Res15.same H2.out (Fr.refl _ _))
  | false =>
    obtain ⟨a0, a1, a2, a3, a4, a5⟩ := cells6 B2.out
    obtain ⟨p0, p1⟩ := cells2 P2.out
    have fE := (Fr.refl No w2).alloc (.cells #[.int .u8 (m0.toNat : Int), .int .u8 (m1.toNat : Int), .int .u8 (m2.toNat : Int), .int .u8 (m3.toNat : Int), .int .u8 (m4.toNat : Int), .int .u8 (m5.toNat : Int), .bool pt, .int .i64 pn, .int .u64 0, .bool true] 62)
    have rE := heap_alloc_new w2 (.cells #[.int .u8 (m0.toNat : Int), .int .u8 (m1.toNat : Int), .int .u8 (m2.toNat : Int), .int .u8 (m3.toNat : Int), .int .u8 (m4.toNat : Int), .int .u8 (m5.toNat : Int), .bool pt, .int .i64 pn, .int .u64 0, .bool true] 62)
    go_upto_region 4 with fail
    generalize World.alloc _ _ = w2e at fE rE ⊢
    generalize w2.heap.size = bE at rE ⊢
    have H2 := Lib.hid (H2.out.no fE)
    have F2 := Lib.hid (F2.out.trans fE)
    have B2 := Lib.hid (fE.heap B2.out (fun h => h))
    have E2 := Lib.hid rE
    clear fE rE a0 a1 a2 a3 a4 a5 p0 p1 P2
    obtain ⟨a0, a1, a2, a3, a4, a5⟩ := cells6 B2.out
    go_wp2_with fail
    refine (r15find_any H2.out ⟨m0, m1, m2, m3, m4, m5⟩).mono ?_
    rintro e w3 ⟨⟨z, rfl, hz⟩, f3⟩
    have H3 := Lib.hid (H2.out.no f3)
    have F3 := Lib.hid (F2.out.trans f3)
    have E3 := Lib.hid (f3.heap E2.out (fun h => h))
    have hga := hz.get HS.out
    clear H2 F2 B2 E2 f3 hz a0 a1 a2 a3 a4 a5
    obtain ⟨x0, x1, x2, x3, x4, x5, x6, x7, x8, x9⟩ := cells10 E3.out
    rcases hga with ⟨rfl, ha⟩ | ⟨i, e, rfl, hi, hm, ha⟩
    · have HAR : Hid (aadd room rs ⟨⟨m0, m1, m2, m3, m4, m5⟩, pt, pn, 0, true⟩ = (c, A')) := Lib.hid (by
        have h := HR.out
        unfold astatic at h
        rw [if_neg (by rw [HG.out]; simp), ha] at h
        exact h)
      have HAN := Lib.hid ha
      clear ha
      go_wp2_with fail
      refine (r15add_any H3.out HS.out (e := ⟨⟨m0, m1, m2, m3, m4, m5⟩, pt, pn, 0, true⟩) ⟨HPN.out, (show (0 : Int) ≤ 0 ∧ (0 : Int) < 18446744073709551616 by decide)⟩ HAN.out hl HAR.out).mono ?_
      rintro e w4 ⟨rfl, hres⟩
      have RS := Lib.hid (Res15.from F3.out hres)
      clear hres
      go_wp2_with fail
      go_ret
      exact ⟨rfl, RS.out⟩
    · have hin : i < n := by have := (List.getElem?_eq_some_iff.1 hi).1; have := H3.out.len; omega
      obtain ⟨gb, rfl⟩ := H3.out.some_ hin
      obtain ⟨k0, k1, k2⟩ := H3.out.cells
      have bi1 : (i : Int) < (n : Int) := by omega
      have bi0 : (0 : Int) ≤ (i : Int) := by omega
      have HAR : Hid (c = 0 ∧ A' = rs.set i ⟨⟨m0, m1, m2, m3, m4, m5⟩, pt, pn, 0, true⟩) := Lib.hid (by
        have h := HR.out
        unfold astatic at h
        rw [if_neg (by rw [HG.out]; simp), ha] at h
        simp only at h
        have h3 := congrArg Prod.fst h
        have h4 := congrArg Prod.snd h
        simp only at h3 h4
        rw [aput_set HS.out hi (e := ⟨⟨m0, m1, m2, m3, m4, m5⟩, pt, pn, 0, true⟩) hm] at h4
        exact ⟨h3.symm, h4.symm⟩)
      clear ha hm hi k0 k1
      go_wp2_with fail
      go_still_tail 7, (by kernel_rfl)
      repeat still_step
      try refine wpStill_nil ?_
      change wpList _ _ _ _ _ w3.drew
      generalize hw5 : w3.drew = w5
      have H5 := Lib.hid (show R15 w5 rb (some ⟨gb, 0, none⟩) n cap room life rs by rw [← hw5]; exact H3.out.no ((Fr.refl No _).drew))
      have F5 := Lib.hid (show Fr No w3 w5 by rw [← hw5]; exact (Fr.refl No _).drew)
      clear hw5 x0 x1 x2 x3 x4 x5 x6 x7 x8 x9 k2
      obtain ⟨⟨c0, hc0⟩, ⟨c1, hc1⟩, ⟨c2, hc2⟩, ⟨c3, hc3⟩, ⟨c4, hc4⟩, ⟨c5, hc5⟩, ⟨c6, hc6⟩, ⟨c7, hc7⟩, ⟨c8, hc8⟩, ⟨c9, hc9⟩⟩ := H5.out.ten hin
      have z0 := H5.out.own.free1 (i * 10)
      have z1 := H5.out.own.free1 (i * 10 + 1)
      have z2 := H5.out.own.free1 (i * 10 + 2)
      have z3 := H5.out.own.free1 (i * 10 + 3)
      have z4 := H5.out.own.free1 (i * 10 + 4)
      have z5 := H5.out.own.free1 (i * 10 + 5)
      have z6 := H5.out.own.free1 (i * 10 + 6)
      have z7 := H5.out.own.free1 (i * 10 + 7)
      have z8 := H5.out.own.free1 (i * 10 + 8)
      have z9 := H5.out.own.free1 (i * 10 + 9)
      have fin : Res15 w rb (some ⟨gb, 0, none⟩) room life A' (setEn w5 gb i ⟨⟨m0, m1, m2, m3, m4, m5⟩, pt, pn, 0, true⟩) := by
        rw [HAR.out.2]
        exact Res15.from (F3.out.trans F5.out) (R15.over H5.out hin ⟨HPN.out, (show (0 : Int) ≤ 0 ∧ (0 : Int) < 18446744073709551616 by decide)⟩)
      unfold setEn byteV at fin
      simp only at fin
      have FIN := Lib.hid fin
      clear fin
      go_wp2_with fail
      go_ret
      exact ⟨by rw [HAR.out.1]; rfl, FIN.out⟩
end Go.Proofs.YtgmaelndhmnjiaaDoor
