/- geneve: Encap, of what may be. -/
import Derived.Test.YthoppkklooomgaaGen2
namespace Go.Proofs.Ythoppkklooomgaa
open Go.RowKit
set_option linter.unusedVariables false
theorem right_zero {os : List Opt} (h : rightN os = 0) : (∀ o ∈ os, badO o = false) ∧ osum os ≤ 252 := by
  unfold rightN at h
  split at h
  · cases h
  · rename_i h1
    split at h
    · cases h
    · refine ⟨fun o ho => ?_, by omega⟩
      apply Bool.eq_false_iff.2
      intro hb
      exact h1 (List.any_eq_true.2 ⟨o, ho, hb⟩)
theorem osum_take (os : List Opt) (k : Nat) : osum (os.take k) ≤ osum os := by
  induction os generalizing k with
  | nil => simp [osum]
  | cons x l ih =>
    cases k with
    | zero => simp [osum]
    | succ k => simp only [List.take_succ_cons, osum]; have := ih k; omega
theorem cells3 {w : World} {b : Nat} {u0 u1 u2 : Value} {t : Nat} (h : w.heap[b]? = some (.cells #[u0, u1, u2] t (0, 0))) :
    w.cell? ⟨b, 0, none⟩ = some u0 ∧ w.cell? ⟨b, 1, none⟩ = some u1 ∧ w.cell? ⟨b, 2, none⟩ = some u2 :=
  ⟨cell_of_row w b 0 _ t (0, 0) h, cell_of_row w b 1 _ t (0, 0) h, cell_of_row w b 2 _ t (0, 0) h⟩

theorem quarter (n : Nat) (h : n ≤ 1000) : IntKind.u8.wrap (IntKind.i64.wrap ((n : Int) / 4)) = (n : Int) / 4 := by rw [IntKind.wrap_i64, IntKind.wrap_u8]; omega
theorem quarter2 (n : Nat) (h : n ≤ 1000) : wrap64 ((n : Int) / 4) % 256 = (n : Int) / 4 := by
  unfold wrap64
  omega
theorem u8_byte (c : UInt8) : u8 (c.toNat : Int) = c := by
  apply UInt8.toNat_inj.1
  have := u8_toNat (c.toNat : Int)
  have := c.toNat_lt
  omega
set_option maxHeartbeats 1600000 in
set_option maxRecDepth 100000 in
theorem gnEncap_ok {w : World} {oo : Option Addr} {on oc : Nat} {os : List Opt} {ao : Option Addr} {n cap : Nat} {fs : List UInt8} (id : Int) (hi0 : 0 ≤ id) (hi : id < 16777216) (ho : Rs w oo on oc os) (hon : on ≤ 1000) (hc : rightN os = 0)
    (hb : Bs w ao n cap fs) (h1 : 14 ≤ n) (h2 : n ≤ 9000) {m : Nat} (hm : m = 8 + osum os + n) :
    Calls Try.prog 15 #[.int .u32 id, .slice oo on oc, .slice ao n cap] w (BytesOk w m (gnOut id os fs)) := by
  have HM := Lib.hid hm
  have HB := Lib.hid hb
  have hN : fs.length = n := hb.1.symm
  have HN := Lib.hid hN
  have HC := Lib.hid hc
  have HO := Lib.hid ho
  have hle := ho.le
  have hcc := ho.capLe
  have ho1 := ho.len
  have HL := Lib.hid ho1
  clear hm hb hN hc ho ho1
  go_enter Try.func15, Try.ntmps15
  go_wp2_with fail
  refine (right_any HO.out hon).mono ?_
  rw [HC.out]
  rintro e w1 (⟨h0, rfl, hf⟩ | ⟨h0, -⟩)
  rotate_left
  · exact absurd rfl h0
  have F1 := Lib.hid hf
  clear h0 hf
  go_wp2_with fail
  refine (gnSize_ok ao n cap h1 h2 _).mono ?_
  rintro e w2 ⟨rfl, rfl⟩
  go_wp2_with fail
  have r1 := Wr.fresh w1
  have f1 := (Fr.refl (Up w1.heap.size) w1).alloc (.cells #[.slice none 0 0] 94)
  generalize w1.alloc (.cells #[.slice none 0 0] 94) = w2 at *
  have R1 := Lib.hid r1
  have F2 := Lib.hid f1
  clear r1 f1
  go_loopw [33] (fun t wr => ∃ k : Nat, t = .int .i64 k ∧ k ≤ on ∧ Wr (Up w1.heap.size) wr w1.heap.size (optsB (os.take k)) ∧ Fr (Up w1.heap.size) w1 wr) (fun t _ => on - (intOf t).toNat)
  case atStart => exact ⟨0, rfl, by omega, R1.out, F2.out⟩
  case round =>
    clear R1 F2
    obtain ⟨k, rfl, hk, hr, hf⟩ := hrel
    have R2 := Lib.hid hr
    have F2 := Lib.hid hf
    clear hr hf
    by_cases hlt : k < on
    · obtain ⟨a, o, rfl, hok, ⟨bo, bc, h3, h4, h5, h6⟩, hcl⟩ := (HO.out.no F1.out).get k hlt
      have N2 := F2.out.up (Nat.le_refl _)
      replace h3 := N2.cell h3 (fun h => h)
      replace h4 := N2.cell h4 (fun h => h)
      replace h5 := N2.cell h5 (fun h => h)
      have hbad := (right_zero HC.out).1 o (List.mem_of_getElem? hok)
      simp [badO] at hbad
      have HK := Lib.hid hok
      have H6 := Lib.hid h6
      clear hok h6 N2
      have H3 := Lib.hid (Wr.at_new R2.out (.cells #[.int .u16 (o.cls : Int), .int .u8 (o.typ.toNat : Int), .slice bo o.b.length bc] 38) rfl)
      have F3 := Lib.hid (F2.out.alloc (.cells #[.int .u16 (o.cls : Int), .int .u8 (o.typ.toNat : Int), .slice bo o.b.length bc] 38))
      have X3 := heap_alloc_new wr (.cells #[.int .u16 (o.cls : Int), .int .u8 (o.typ.toNat : Int), .slice bo o.b.length bc] 38)
      obtain ⟨c0, c1, c2⟩ := cells3 X3
      have HX := Lib.hid X3
      clear X3
      go_wp2_with fail
      generalize hxe : wr.heap.size = x at *
      generalize wr.alloc (.cells #[.int .u16 (o.cls : Int), .int .u8 (o.typ.toNat : Int), .slice bo o.b.length bc] 38) = w3 at *
      have hbl : ((optsB (os.take k)).length : Nat) ≤ 252 := by rw [optsB_length]; have := osum_take os k; have := (right_zero HC.out).2; omega
      have HBL := Lib.hid hbl
      clear hbl h3 h4 h5
      have HQ : Hid (IntKind.u8.wrap (IntKind.i64.wrap ((o.b.length : Int) / 4)) = (o.b.length : Int) / 4) := Lib.hid (quarter _ (by omega))
      go_region_held3 (fun w' => w'.cell? ⟨x, 0, none⟩ = some (.int .u16 (o.cls : Int)) ∧ w'.cell? ⟨x, 1, none⟩ = some (.int .u8 (o.typ.toNat : Int)) ∧ w'.cell? ⟨x, 2, none⟩ = some (.slice bo o.b.length bc))
        (first | exact ⟨c0, c1, c2⟩ | exact ⟨c0', c1', c2'⟩ | exact ⟨d0, d1, d2⟩ | exact ⟨e0, e1, e2⟩ | exact ⟨g0, g1, g2⟩)
        (first
          | (go_at_call 31; refine (wU16_any (H3.out.no ((Fr.refl No w3).drew)) _ (by omega) (by omega) (by have := HBL.out; unfold big; omega)).mono ?_; rintro e w4 ⟨rfl, r4, f4⟩; have R4 := Lib.hid r4; have F4 := Lib.hid ((Fr.refl _ w3).drew.trans f4); have c0' := f4.cell (w := w3.drew) c0 (fun h => h.2 rfl); have c1' := f4.cell (w := w3.drew) c1 (fun h => h.2 rfl); have c2' := f4.cell (w := w3.drew) c2 (fun h => h.2 rfl); clear r4 f4 H3)
          | (go_at_call 32; refine (wU8_any R4.out _ (by omega) (by have := o.typ.toNat_lt; omega) (by have := HBL.out; simp [b2]; unfold big; omega)).mono ?_; rintro e w5 ⟨rfl, r5, f5⟩; have R5 := Lib.hid r5; have F5 := Lib.hid (F4.out.trans f5); have d0 := f5.cell c0' (fun h => h.2 rfl); have d1 := f5.cell c1' (fun h => h.2 rfl); have d2 := f5.cell c2' (fun h => h.2 rfl); clear r5 f5 R4)
          | (go_at_call 32; rw [HQ.out]; refine (wU8_any R5.out _ (by omega) (by omega) (by have := HBL.out; simp [b2]; unfold big; omega)).mono ?_; rintro e w6 ⟨rfl, r6, f6⟩; have R6 := Lib.hid r6; have F6 := Lib.hid (F5.out.trans f6); have e0 := f6.cell d0 (fun h => h.2 rfl); have e1 := f6.cell d1 (fun h => h.2 rfl); have e2 := f6.cell d2 (fun h => h.2 rfl); clear r6 f6 R5)
          | (go_at_call 33; refine (wBytes_any R6.out (H6.out.keep (F3.out.trans (F6.out.mono (fun _ _ h => h.1)))) (by have := HBL.out; simp [b2]; unfold big; omega)).mono ?_; rintro e w7 ⟨rfl, r7, f7⟩; have R7 := Lib.hid r7; have F7 := Lib.hid (F6.out.trans f7); have g0 := f7.cell e0 (fun h => h.2 rfl); have g1 := f7.cell e1 (fun h => h.2 rfl); have g2 := f7.cell e2 (fun h => h.2 rfl); clear r7 f7 R6))
      have F8 := Lib.hid (F3.out.trans (F7.out.mono (fun _ _ h => h.1)))
      have R8 : Hid (Wr (Up w1.heap.size) w7 w1.heap.size (optsB (os.take (k + 1)))) := Lib.hid (by
        have h := R7.out.mono (S' := Up w1.heap.size) (fun _ h => h.1)
        rw [take_snoc HK.out, optsB_snoc]
        simpa [optB, u8_byte] using h)
      clear R7 F7 F6 F5 F4 F3 c0 c1 c2 c0' c1' c2' d0 d1 d2 e0 e1 e2 g0 g1 g2 HX HQ H6 HBL
      go_wp2_with fail
      go_roundw
      case rel => exact ⟨k + 1, by go_num, by omega, R8.out, F8.out⟩
      case measure => simp [intOf]; omega
    · have hall : os.take k = os := List.take_of_length_le (by rw [← HL.out]; omega)
      rw [hall] at R2
      have hsum := (right_zero HC.out).2
      have HS := Lib.hid hsum
      clear hall hsum
      go_wp2_with fail
      refine (wDone_any R2.out (by rw [optsB_length]; have := HS.out; unfold big; omega)).mono ?_
      rintro e w4 ⟨g, cap4, rfl, o4, f4, h4⟩
      rw [optsB_length] at o4 ⊢
      have O4 := Lib.hid o4
      have F4 := Lib.hid (F2.out.then_no f4)
      have hg : w1.heap.size ≤ g := Nat.le_trans F2.out.size h4
      clear o4 f4 h4 R2 F2
      go_wp2_with fail
      have HQ := Lib.hid (quarter2 (osum os) (by have := HS.out; omega))
      rw [HQ.out]
      have r5 := Wr.fresh w4
      have f5 := (Fr.refl (Up w4.heap.size) w4).alloc (.cells #[.slice none 0 0] 94)
      generalize w4.alloc (.cells #[.slice none 0 0] 94) = w5 at *
      refine (wU8_any r5 _ (by omega) (by have := HS.out; omega) (by simp; decide)).mono ?_
      rintro e w6 ⟨rfl, r6, f6⟩
      have R6 := Lib.hid r6
      have F6 := Lib.hid (f5.trans f6)
      clear r5 f5 r6 f6
      go_wp2_with fail
      have N6 := Lib.hid ((F1.out.then_no (F4.out.up (Nat.le_refl _))).then_no (F6.out.up (Nat.le_refl _)))
      refine (flags_any (HO.out.no N6.out)).mono ?_
      rintro e w7 ⟨rfl, f7⟩
      have R7 := Lib.hid (R6.out.no f7)
      have F7 := Lib.hid (F6.out.then_no f7)
      clear R6 F6 f7
      go_wp2_with fail
      have hgf : 0 ≤ gflag (anyCrit os) ∧ gflag (anyCrit os) < 256 := by unfold gflag; split <;> omega
      refine (wU8_any R7.out _ hgf.1 hgf.2 (by simp; decide)).mono ?_
      rintro e w8 ⟨rfl, r8, f8⟩
      have R8 := Lib.hid r8
      have F8 := Lib.hid (F7.out.trans f8)
      clear R7 F7 r8 f8
      go_wp2_with fail
      refine (wU16_any R8.out 25944 (by omega) (by omega) (by simp; decide)).mono ?_
      rintro e w9 ⟨rfl, r9, f9⟩
      have R9 := Lib.hid r9
      have F9 := Lib.hid (F8.out.trans f9)
      clear R8 F8 r9 f9
      go_wp2_with fail
      refine (wU32_any R9.out _ (by omega) (by omega) (by simp [b2]; decide)).mono ?_
      rintro e w10 ⟨rfl, r10, f10⟩
      have R10 := Lib.hid r10
      have F10 := Lib.hid (F9.out.trans f10)
      clear R9 F9 r10 f10
      go_wp2_with fail
      refine (wBytes_any R10.out (O4.out.bs.keep F10.out) (by have := HS.out; simp [b2, b4]; unfold big; omega)).mono ?_
      rintro e w11 ⟨rfl, r11, f11⟩
      have R11 := Lib.hid r11
      have F11 := Lib.hid (F10.out.trans f11)
      clear R10 F10 r11 f11
      go_wp2_with fail
      have N11 := Lib.hid ((F1.out.then_no (F4.out.up (Nat.le_refl _))).then_no (F11.out.up (Nat.le_refl _)))
      refine (wBytes_any R11.out (HB.out.no N11.out) (by have := HS.out; have := optsB_length os; simp [b2, b4]; unfold big; omega)).mono ?_
      rintro e w12 ⟨rfl, r12, f12⟩
      have R12 := Lib.hid r12
      have F12 := Lib.hid (F11.out.trans f12)
      clear R11 F11 r12 f12
      go_wp2_with fail
      have hlen : ([] ++ [u8 (osum os / 4)] ++ [u8 (gflag (anyCrit os))] ++ b2 25944 ++ b4 (id * 256) ++ optsB os ++ fs).length = m := by
        have := HM.out; have := HN.out; have := optsB_length os; simp [b2, b4]; omega
      refine (wDone_any R12.out (by rw [hlen]; have := HM.out; have := HS.out; unfold big; omega)).mono ?_
      rintro e w13 ⟨a, cap', rfl, ho, f13, ha⟩
      rw [hlen] at ho ⊢
      have HO13 : Hid (OB w13 5 (some ⟨a, 0, none⟩) m cap' (gnOut id os fs)) := Lib.hid (by simpa [gnOut] using ho)
      have N12 := Lib.hid (((F1.out.then_no (F4.out.up (Nat.le_refl _))).then_no (F12.out.up (Nat.le_refl _))).then_no f13)
      have ha2 : w.heap.size ≤ a := by have := F1.out.size; have := F4.out.size; have := F12.out.size; omega
      clear ho f13 ha hlen
      go_wp2_with fail
      go_ret2
      exact ⟨a, cap', rfl, HO13.out, N12.out, ha2⟩

end Go.Proofs.Ythoppkklooomgaa