/- tunnel: accepts. -/
import Derived.Test.YthoppkklooomgaaTnS
namespace Go.Proofs.Ythoppkklooomgaa
open Go.RowKit
set_option linter.unusedVariables false
set_option linter.unusedSimpArgs false
theorem tqt : 78 ≠ 22 := by decide
theorem sg_after {w3 w4 w5 : World} {x eb t tx ty : Nat} {c0 c1 c2 c3 c6 v : Value} {seq : Int} {cs : Array Value} {b : Bool} (X3 : w3.heap[x]? = some (.cells #[v] tx (0, 0))) (Y3 : w3.heap[x + 1]? = some (.cells #[c0, c1, c2, c3, .bool true, .int .u32 seq, c6] ty (0, 0))) (hlt : eb < x) (f4 : Fr No w3 w4) (f5 : Fr (Is eb) w4 w5)
    (b5 : w5.heap[eb]? = some (.cells cs t (0, 0))) (hb : cs[8]? = some (.bool b)) :
    (w5.cell? ⟨x, 0, none⟩ = some v ∧ w5.cell? ⟨eb, 8, none⟩ = some (.bool b)) ∧ w5.cell? ⟨x + 1, 4, none⟩ = some (.bool true) ∧ w5.cell? ⟨x + 1, 5, none⟩ = some (.int .u32 seq) := by
  obtain ⟨-, -, -, -, y4, y5, -⟩ := cells7 (f5.heap (f4.heap Y3 (fun h => h)) (fun h : x + 1 = eb => by omega))
  exact ⟨⟨cell_of_one (f5.heap (f4.heap X3 (fun h => h)) (fun h : x = eb => by omega)), by rw [cell_of_row w5 eb 8 _ _ _ b5]; exact hb⟩, y4, y5⟩
theorem EnAt'.grown {S : Nat → Prop} {w w' : World} {eb : Nat} {e : TE} {m : EnM} (h : EnAt' S w eb e m) (hf : Fr No w w') : EnAt' (fun k => S k ∨ (w.heap.size ≤ k ∧ k < w'.heap.size)) w' eb e m := (h.fr hf (fun _ _ h => h)).mono (fun k hk => .inl hk)
set_option maxRecDepth 100000 in
set_option maxHeartbeats 1600000 in
theorem tnAccepts_any {S : Nat → Prop} {w : World} {eb : Nat} {e : TE} {m : EnM} (h : EnAt' S w eb e m) (hok : e.ok) {oo : Option Addr} {on oc : Nat} {os : List Opt} (ho : Rs w oo on oc os) (seqed : Bool) {seq : Nat} (hsq : seq < 4294967296) (k0 id0 : Int) (b0 : Bool) (fo : Option Addr) (fn fc : Nat) :
    Calls Try.prog 27 #[.pointer (some ⟨eb, 0, none⟩), .agg #[.int .i64 k0, .int .u32 id0, .bool b0, .slice oo on oc, .bool seqed, .int .u32 (seq : Int), .slice fo fn fc]] w (AcceptsOk S w eb (e.accepts os seqed seq) (e.behind os seqed seq)) := by
  have f1 := ((Fr.refl No w).alloc (.cells #[.pointer (some ⟨eb, 0, none⟩)] 70)).alloc (.cells #[.int .i64 k0, .int .u32 id0, .bool b0, .slice oo on oc, .bool seqed, .int .u32 (seq : Int), .slice fo fn fc] 83)
  have X1 := Lib.hid (((Fr.refl No _).alloc (.cells #[.int .i64 k0, .int .u32 id0, .bool b0, .slice oo on oc, .bool seqed, .int .u32 (seq : Int), .slice fo fn fc] 83)).heap (heap_alloc_new w (.cells #[.pointer (some ⟨eb, 0, none⟩)] 70)) (fun h => h))
  have Y1 := Lib.hid (heap_alloc_new (w.alloc (.cells #[.pointer (some ⟨eb, 0, none⟩)] 70)) (.cells #[.int .i64 k0, .int .u32 id0, .bool b0, .slice oo on oc, .bool seqed, .int .u32 (seq : Int), .slice fo fn fc] 83))
  rw [show (w.alloc (.cells #[.pointer (some ⟨eb, 0, none⟩)] 70)).heap.size = w.heap.size + 1 by simp] at Y1
  have F1 := Lib.hid f1
  have M0 := Lib.hid h
  have M1 := Lib.hid (h.fr f1 (fun _ _ h => h))
  have HO1 := Lib.hid (ho.no f1)
  have HOK := Lib.hid hok
  have hlt := lt_of_heap h.box
  have g1 := ho.le
  have g2 := ho.capLe
  clear f1 h ho hok
  go_enter Try.func27, Try.ntmps27
  go_upto_region 1 with fail
  generalize (w.alloc _).alloc _ = w1 at *
  obtain ⟨y0, y1, y2, y3, y4, y5, y6⟩ := cells7 Y1.out
  obtain ⟨sg, hsg⟩ : ∃ sg, os.any (strange e.t.ks) = sg := ⟨_, rfl⟩
  have HSG := Lib.hid hsg
  have HCO : Hid (Calls Try.prog 49 #[.slice oo on oc, .func (.func 46) #[] #[.pointer (some ⟨w.heap.size, 0, none⟩)]] w1 (CritOk w1 sg)) := Lib.hid (by
    obtain ⟨-, -, -, -, -, -, a6, -⟩ := cells11 M1.out.box
    exact containsS_any HO1.out (cell_of_one X1.out) a6 M1.out.ow.ks.us hsg)
  clear hsg
  go_upto_region 2 with fail
  cases sg
  rotate_left
  · go_wp2_with (go_at_call 49; refine HCO.out.mono ?_; rintro r w3 ⟨rfl, f3⟩; have F3 := Lib.hid (F1.out.trans f3); have X3 := Lib.hid (f3.heap X1.out (fun h => h)); have Y3 := Lib.hid (f3.heap Y1.out (fun h => h)); have M3 := Lib.hid (M1.out.fr f3 (fun _ _ h => h)); clear f3)
    go_ret
    have h1 : e.accepts os seqed seq = 11 := by unfold TE.accepts; rw [if_pos HSG.out]
    have h2 : e.behind os seqed seq = e := by unfold TE.behind; rw [if_pos HSG.out]
    rw [h1, h2]
    exact ⟨rfl, F3.out.of_no, m, M0.out.grown F3.out⟩
  · have hacc : e.accepts os seqed seq = if (e.t.seq && seqed && !(acc e.last seq)) = true then 13 else 0 := by unfold TE.accepts; rw [if_neg (by rw [HSG.out]; decide)]
    have hbeh : e.behind os seqed seq = if (e.t.seq && seqed) = true then ⟨e.t, e.next, accNext e.last seq⟩ else e := by unfold TE.behind; rw [if_neg (by rw [HSG.out]; decide)]
    obtain ⟨ts, hts⟩ : ∃ ts, e.t.seq = ts := ⟨_, rfl⟩
    rw [hts] at hacc hbeh
    have HACC := Lib.hid hacc
    have HBEH := Lib.hid hbeh
    clear hacc hbeh
    have HTS := Lib.hid hts
    clear hts
    go_upto_region 4 with (go_at_call 49; refine HCO.out.mono ?_; rintro r w3 ⟨rfl, f3⟩; have F3 := Lib.hid (F1.out.trans f3); have X3 := Lib.hid (f3.heap X1.out (fun h => h)); have Y3 := Lib.hid (f3.heap Y1.out (fun h => h)); have M3 := Lib.hid (M1.out.fr f3 (fun _ _ h => h)); clear f3 y0 y1 y2 y3 y4 y5 y6; obtain ⟨y0, y1, y2, y3, y4, y5, y6⟩ := cells7 Y3.out; have x0 := cell_of_one X3.out; obtain ⟨-, -, -, -, -, -, -, -, a8, -⟩ := cells11 M3.out.box; rw [HTS.out] at a8)
    cases ts
    · go_quiet (fail)
      go_wp2_with fail
      go_ret
      rw [HACC.out, HBEH.out]
      exact ⟨rfl, (F3.out.drewN _).of_no, m, M0.out.grown (F3.out.drewN _)⟩
    cases seqed
    · go_quiet (fail)
      go_wp2_with fail
      go_ret
      rw [HACC.out, HBEH.out]
      exact ⟨rfl, (F3.out.drewN _).of_no, m, M0.out.grown (F3.out.drewN _)⟩
    · have M4 := Lib.hid (M3.out.fr ((Fr.refl No w3).drew) (fun _ _ h => h))
      have SF : Hid (∀ W, Fr No w3 W → (W.cell? ⟨w.heap.size, 0, none⟩ = some (.pointer (some ⟨eb, 0, none⟩)) ∧ W.cell? ⟨eb, 8, none⟩ = some (.bool true)) ∧ W.cell? ⟨w.heap.size + 1, 4, none⟩ = some (.bool true) ∧ W.cell? ⟨w.heap.size + 1, 5, none⟩ = some (.int .u32 (seq : Int))) := Lib.hid (fun W f => by
        obtain ⟨-, -, -, -, y4, y5, -⟩ := cells7 (f.heap Y3.out (fun h => h))
        exact ⟨⟨cell_of_one (f.heap X3.out (fun h => h)), f.cell a8 (fun h => h)⟩, y4, y5⟩)
      refine wp_region_held_drew (S := (fun W => (W.cell? ⟨w.heap.size, 0, none⟩ = some (.pointer (some ⟨eb, 0, none⟩)) ∧ W.cell? ⟨eb, 8, none⟩ = some (.bool true)) ∧ W.cell? ⟨w.heap.size + 1, 4, none⟩ = some (.bool true) ∧ W.cell? ⟨w.heap.size + 1, 5, none⟩ = some (.int .u32 (seq : Int)))) (by kernel_rfl) ?_ (fun hHeld => ?_)
      · ((try dsimp only); exact SF.out _ (Fr.refl _ _).drew)
      · skip
        change wpAnyH _ _ _ _ _ 19 #[false, false, false, false, false, false, false, false, false, false, false, false, false, false, false, false, false, false, false] _ _
        apply wpAnyH_take (i := 0)
        · (simp only [List.getElem?_toArray, List.getElem?_cons_succ, List.getElem?_cons_zero]; rfl)
        · kernel_rfl
        · kernel_rfl
        · kernel_rfl
        · exact fun _ _ _ h => h
        · (refine Or.inl ⟨by kernel_rfl, ?_⟩; intro w hSw; (try dsimp only at hSw); go_simp; try with_reducible rfl)
        · assumption
        simp only [Act.put, List.setIfInBounds_toArray, List.set_cons_zero, List.set_cons_succ]
        apply wpAnyH_take (i := 1)
        · (simp only [List.getElem?_toArray, List.getElem?_cons_succ, List.getElem?_cons_zero]; rfl)
        · kernel_rfl
        · kernel_rfl
        · kernel_rfl
        · exact fun _ _ _ h => h
        · (refine Or.inl ⟨by kernel_rfl, ?_⟩; intro w hSw; (try dsimp only at hSw); go_simp; try with_reducible rfl)
        · assumption
        simp only [Act.put, List.setIfInBounds_toArray, List.set_cons_zero, List.set_cons_succ]
        apply wpAnyH_take (i := 2)
        · (simp only [List.getElem?_toArray, List.getElem?_cons_succ, List.getElem?_cons_zero]; rfl)
        · kernel_rfl
        · kernel_rfl
        · kernel_rfl
        · exact fun _ _ _ h => h
        · (refine Or.inl ⟨by kernel_rfl, ?_⟩; intro w hSw; (try dsimp only at hSw); go_simp; try with_reducible rfl)
        · assumption
        simp only [Act.put, List.setIfInBounds_toArray, List.set_cons_zero, List.set_cons_succ]
        apply wpAnyH_take (i := 3)
        · (simp only [List.getElem?_toArray, List.getElem?_cons_succ, List.getElem?_cons_zero]; rfl)
        · kernel_rfl
        · kernel_rfl
        · kernel_rfl
        · exact fun _ _ _ h => h
        · (refine Or.inl ⟨by kernel_rfl, ?_⟩; intro w hSw; (try dsimp only at hSw); go_simp; try with_reducible rfl)
        · assumption
        simp only [Act.put, List.setIfInBounds_toArray, List.set_cons_zero, List.set_cons_succ]
        apply wpAnyH_take (i := 4)
        · (simp only [List.getElem?_toArray, List.getElem?_cons_succ, List.getElem?_cons_zero]; rfl)
        · kernel_rfl
        · kernel_rfl
        · kernel_rfl
        · exact fun _ _ _ h => h
        · (refine Or.inl ⟨by kernel_rfl, ?_⟩; intro w hSw; (try dsimp only at hSw); go_simp; try with_reducible rfl)
        · assumption
        simp only [Act.put, List.setIfInBounds_toArray, List.set_cons_zero, List.set_cons_succ]
        apply wpAnyH_take (i := 5)
        · (simp only [List.getElem?_toArray, List.getElem?_cons_succ, List.getElem?_cons_zero]; rfl)
        · kernel_rfl
        · kernel_rfl
        · kernel_rfl
        · exact fun _ _ _ h => h
        · (refine Or.inl ⟨by kernel_rfl, ?_⟩; intro w hSw; (try dsimp only at hSw); go_simp; try with_reducible rfl)
        · assumption
        simp only [Act.put, List.setIfInBounds_toArray, List.set_cons_zero, List.set_cons_succ]
        apply wpAnyH_take (i := 6)
        · (simp only [List.getElem?_toArray, List.getElem?_cons_succ, List.getElem?_cons_zero]; rfl)
        · kernel_rfl
        · kernel_rfl
        · kernel_rfl
        · exact fun _ _ _ h => h
        · (refine Or.inl ⟨by kernel_rfl, ?_⟩; intro w hSw; (try dsimp only at hSw); go_simp; try with_reducible rfl)
        · assumption
        simp only [Act.put, List.setIfInBounds_toArray, List.set_cons_zero, List.set_cons_succ]
        apply wpAnyH_take (i := 7)
        · (simp only [List.getElem?_toArray, List.getElem?_cons_succ, List.getElem?_cons_zero]; rfl)
        · kernel_rfl
        · kernel_rfl
        · kernel_rfl
        · exact fun _ _ _ h => h
        · (refine Or.inl ⟨by kernel_rfl, ?_⟩; intro w hSw; (try dsimp only at hSw); go_simp; try with_reducible rfl)
        · assumption
        simp only [Act.put, List.setIfInBounds_toArray, List.set_cons_zero, List.set_cons_succ]
        apply wpAnyH_take (i := 8)
        · (simp only [List.getElem?_toArray, List.getElem?_cons_succ, List.getElem?_cons_zero]; rfl)
        · kernel_rfl
        · kernel_rfl
        · kernel_rfl
        · exact fun _ _ _ h => h
        · (refine Or.inl ⟨by kernel_rfl, ?_⟩; intro w hSw; (try dsimp only at hSw); go_simp; try with_reducible rfl)
        · assumption
        simp only [Act.put, List.setIfInBounds_toArray, List.set_cons_zero, List.set_cons_succ]
        apply wpAnyH_take (i := 9)
        · (simp only [List.getElem?_toArray, List.getElem?_cons_succ, List.getElem?_cons_zero]; rfl)
        · kernel_rfl
        · kernel_rfl
        · kernel_rfl
        · exact fun _ _ _ h => h
        · (refine Or.inl ⟨by kernel_rfl, ?_⟩; intro w hSw; (try dsimp only at hSw); go_simp; try with_reducible rfl)
        · assumption
        simp only [Act.put, List.setIfInBounds_toArray, List.set_cons_zero, List.set_cons_succ]
        apply wpAnyH_take (i := 10)
        · (simp only [List.getElem?_toArray, List.getElem?_cons_succ, List.getElem?_cons_zero]; rfl)
        · kernel_rfl
        · kernel_rfl
        · kernel_rfl
        · exact fun _ _ _ h => h
        · (refine Or.inl ⟨by kernel_rfl, ?_⟩; intro w hSw; (try dsimp only at hSw); go_simp; try with_reducible rfl)
        · assumption
        simp only [Act.put, List.setIfInBounds_toArray, List.set_cons_zero, List.set_cons_succ]
        apply wpAnyH_take (i := 11)
        · (simp only [List.getElem?_toArray, List.getElem?_cons_succ, List.getElem?_cons_zero]; rfl)
        · kernel_rfl
        · kernel_rfl
        · kernel_rfl
        · exact fun _ _ _ h => h
        · (refine Or.inl ⟨by kernel_rfl, ?_⟩; intro w hSw; (try dsimp only at hSw); go_simp; try with_reducible rfl)
        · assumption
        simp only [Act.put, List.setIfInBounds_toArray, List.set_cons_zero, List.set_cons_succ]
        apply wpAnyH_take (i := 12)
        · (simp only [List.getElem?_toArray, List.getElem?_cons_succ, List.getElem?_cons_zero]; rfl)
        · kernel_rfl
        · kernel_rfl
        · kernel_rfl
        · exact fun _ _ _ h => h
        · (refine Or.inl ⟨by kernel_rfl, ?_⟩; intro w hSw; (try dsimp only at hSw); go_simp; try with_reducible rfl)
        · assumption
        simp only [Act.put, List.setIfInBounds_toArray, List.set_cons_zero, List.set_cons_succ]
        apply wpAnyH_take (i := 13)
        · (simp only [List.getElem?_toArray, List.getElem?_cons_succ, List.getElem?_cons_zero]; rfl)
        · kernel_rfl
        · kernel_rfl
        · kernel_rfl
        · exact fun _ _ _ h => h
        · (refine Or.inl ⟨by kernel_rfl, ?_⟩; intro w hSw; (try dsimp only at hSw); go_simp; try with_reducible rfl)
        · assumption
        simp only [Act.put, List.setIfInBounds_toArray, List.set_cons_zero, List.set_cons_succ]
        apply wpAnyH_take (i := 14)
        · (simp only [List.getElem?_toArray, List.getElem?_cons_succ, List.getElem?_cons_zero]; rfl)
        · kernel_rfl
        · kernel_rfl
        · kernel_rfl
        · exact fun _ _ _ h => h
        · (refine Or.inl ⟨by kernel_rfl, ?_⟩; intro w hSw; (try dsimp only at hSw); go_simp; try with_reducible rfl)
        · assumption
        simp only [Act.put, List.setIfInBounds_toArray, List.set_cons_zero, List.set_cons_succ]
        refine wpAnyH_ready (rs := [15]) (by kernel_rfl) (by simp) (AllReadyH.cons rfl (fun K hK => ?_) AllReadyH.nil)
        · skip
          change Oper.wp _ _ _ _ _ _
          go_simp
          refine (accept_at (S := S) M4.out.box (by rfl) tqt M4.out.lst hsq HOK.out.last).mono ?_
          rintro r w5 ⟨rfl, f5, lp5, b5, l5⟩
          have F5 := Lib.hid f5; have B5 := Lib.hid b5; have L5 := Lib.hid l5; have SG : Hid ((w5.cell? ⟨w.heap.size, 0, none⟩ = some (.pointer (some ⟨eb, 0, none⟩)) ∧ w5.cell? ⟨eb, 8, none⟩ = some (.bool true)) ∧ w5.cell? ⟨w.heap.size + 1, 4, none⟩ = some (.bool true) ∧ w5.cell? ⟨w.heap.size + 1, 5, none⟩ = some (.int .u32 (seq : Int))) := Lib.hid (sg_after X3.out Y3.out hlt ((Fr.refl No w3).drew) f5 b5 (by rw [← HTS.out]; rfl)); clear f5 b5 l5
          (try go_wp2_with fail)
          refine hK.out _ _ ?_ (fun hHeld => ?_)
          · ((try dsimp only); exact SG.out)
          · skip
            clear hK K
            (try simp only [Act.put, List.setIfInBounds_toArray, List.set_cons_zero, List.set_cons_succ])
            apply wpAnyH_take (i := 16)
            · (simp only [List.getElem?_toArray, List.getElem?_cons_succ, List.getElem?_cons_zero]; rfl)
            · kernel_rfl
            · kernel_rfl
            · kernel_rfl
            · exact fun _ _ _ h => h
            · (refine Or.inl ⟨by kernel_rfl, ?_⟩; intro w hSw; (try dsimp only at hSw); go_simp; try with_reducible rfl)
            · assumption
            simp only [Act.put, List.setIfInBounds_toArray, List.set_cons_zero, List.set_cons_succ]
            apply wpAnyH_take (i := 17)
            · (simp only [List.getElem?_toArray, List.getElem?_cons_succ, List.getElem?_cons_zero]; rfl)
            · kernel_rfl
            · kernel_rfl
            · kernel_rfl
            · exact fun _ _ _ h => h
            · (refine Or.inl ⟨by kernel_rfl, ?_⟩; intro w hSw; (try dsimp only at hSw); go_simp; try with_reducible rfl)
            · assumption
            simp only [Act.put, List.setIfInBounds_toArray, List.set_cons_zero, List.set_cons_succ]
            apply wpAnyH_take (i := 18)
            · (simp only [List.getElem?_toArray, List.getElem?_cons_succ, List.getElem?_cons_zero]; rfl)
            · kernel_rfl
            · kernel_rfl
            · kernel_rfl
            · exact fun _ _ _ h => h
            · (refine Or.inl ⟨by kernel_rfl, ?_⟩; intro w hSw; (try dsimp only at hSw); go_simp; try with_reducible rfl)
            · assumption
            simp only [Act.put, List.setIfInBounds_toArray, List.set_cons_zero, List.set_cons_succ]
            refine wpAnyH_done (by kernel_rfl) ?_ _
            obtain ⟨ac, hac⟩ : ∃ ac, acc e.last seq = ac := ⟨_, rfl⟩
            rw [hac] at HACC ⊢
            have HAC := Lib.hid hac
            clear hac
            have F5T := Lib.hid (F3.out.drew.of_no.trans F5.out)
            have M9 : Hid (EnAt' (fun k => S k ∨ (w.heap.size ≤ k ∧ k < w5.heap.size)) w5 eb ⟨e.t, e.next, accNext e.last seq⟩ ⟨m.oo, m.on, m.oc, m.ad, m.ko, m.kn, m.kc, lp5⟩) := Lib.hid ⟨by rw [B5.out]; simp, (M0.out.ow.beside F5T.out M0.out.only).mono (fun k hk => .inl hk), L5.out.mono (fun k hk => by rcases hk with h | ⟨h1, h2⟩; exact .inl h; exact .inr ⟨Nat.le_trans F3.out.size h1, h2⟩), .inl M0.out.up, M0.out.km⟩
            clear B5 L5
            cases ac
            · try go_wp2_with fail
              go_ret
              rw [HACC.out, HBEH.out]
              exact ⟨rfl, F5T.out, _, M9.out⟩
            · try go_wp2_with fail
              go_ret
              rw [HACC.out, HBEH.out]
              exact ⟨rfl, F5T.out, _, M9.out⟩
end Go.Proofs.Ythoppkklooomgaa