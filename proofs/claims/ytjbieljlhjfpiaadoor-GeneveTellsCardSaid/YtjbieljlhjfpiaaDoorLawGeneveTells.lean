/- GeneveTells: the walk. -/
import Derived.Test.YtjbieljlhjfpiaaDoorGnTell
import Derived.Test.YtjbieljlhjfpiaaDoorSh12
import Derived.Deep.RegionHeld3
namespace Go.Proofs.YtjbieljlhjfpiaaDoor
open Go.RowKit
set_option linter.unusedVariables false

set_option maxHeartbeats 1600000 in
set_option maxRecDepth 100000 in
theorem GeneveTells_walk {w : World} {oo : Option Addr} {on oc : Nat} {os : List Opt} {ao : Option Addr} {n cap : Nat} {fs : List UInt8} (hg : EG w) (id : Int) (hi0 : 0 ≤ id) (hi1 : id < 4294967296) (ho : Rs w oo on oc os) (hb : Bs w ao n cap fs) :
    Calls Tryd.prog 3 #[.int .u32 id, .slice oo on oc, .slice ao n cap] w (SaidOk w) := by
  have hle := hb.2.le
  have hcc := hb.2.capLe
  have hle2 := ho.le
  have hcc2 := ho.capLe
  have hb2 : Bs w ao (min n 10000) cap (fs.take (min n 10000)) := by
    have := hb.cut 0 (min n 10000) cap (by omega) (by omega) (by omega) (by omega) (a' := ao) (by cases ao <;> simp [Addr.add])
    simpa using this
  have HB := Lib.hid hb2
  have HG := Lib.hid hg
  have HO := Lib.hid (ho.take (min on 100) (by omega))
  have hm1 : min n 10000 ≤ 10000 := by omega
  have hm3 : min on 100 ≤ 100 := by omega
  clear hb hb2 hg ho
  generalize hmm : min n 10000 = m at *
  have HMM := Lib.hid hmm
  generalize fs.take m = bs at *
  generalize hkk : min on 100 = j at *
  have HKK := Lib.hid hkk
  generalize os.take j = os' at *
  clear hmm hkk
  have hbl : bs.length ≤ 10000 := by rw [← HB.out.1]; exact hm1
  have hcv := fun (wx : World) (a : Option Addr) (m c : Nat) (bs : List UInt8) (h : Bs wx a m c bs) => bytes_text h
  have HCV := Lib.hid hcv
  clear hcv
  obtain ⟨r, hr⟩ : ∃ r, gnR id os' bs = r := ⟨_, rfl⟩
  obtain ⟨d, hd⟩ : ∃ d, gnDec bs = d := ⟨_, rfl⟩
  have HR := Lib.hid hr
  have HD := Lib.hid hd
  clear hr hd
  obtain ⟨y, f⟩ := r
  obtain ⟨i1, hi1'⟩ : ∃ i1, i1 = idG d := ⟨_, rfl⟩
  obtain ⟨o1, ho1⟩ : ∃ o1, o1 = osG d := ⟨_, rfl⟩
  obtain ⟨q, hq⟩ : ∃ q, q = fsG d := ⟨_, rfl⟩
  obtain ⟨h, hh⟩ : ∃ h, h = codeG d := ⟨_, rfl⟩
  obtain ⟨inn, hinn⟩ : ∃ inn, inn = inG d := ⟨_, rfl⟩
  have HI1 := Lib.hid hi1'
  have HO1 := Lib.hid ho1
  have HQ := Lib.hid hq
  have HH := Lib.hid hh
  have HIN := Lib.hid hinn
  clear hi1' ho1 hq hh hinn
  go_enter Tryd.func3, Tryd.ntmps3
  go_wp2_with fail
  go_at_call 5
  refine (shown12_any _).mono ?_
  rintro e w1 ⟨rfl, f1⟩
  have F1 := Lib.hid f1
  clear f1
  go_wp2_with fail
  go_at_call 6
  refine (few12_any _ _ _ hle hcc _).mono ?_
  rw [HMM.out]
  rintro e w2 ⟨rfl, rfl⟩
  go_wp2_with fail
  go_at_call 7
  refine (some12_any _ _ _ hle2 hcc2 _).mono ?_
  rw [HKK.out]
  rintro e w2 ⟨rfl, rfl⟩
  go_wp2_with fail
  go_at_call 8
  refine (gnEnc_any id hi0 hi1 (HO.out.no F1.out) (by omega) (HB.out.no F1.out)).mono ?_
  rw [HR.out]
  rintro e w3 ⟨sx, mx, cx, ev, rfl, bx, se, f3⟩
  have F3 := Lib.hid (F1.out.then_no f3)
  have BX := Lib.hid bx
  have SE := Lib.hid se
  have s3 := HCV.out w3 _ _ _ _ (HB.out.no F3.out)
  clear f3 bx se F1
  go_wp2_with fail
  go_at_call 9
  refine (ref12Encap_any id hi0 hi1 bs hbl (HO.out.no F3.out) (by omega)).mono ?_
  rw [HR.out]
  rintro e w4 ⟨rfl, f4⟩
  have F4 := Lib.hid (F3.out.then_no f4)
  have BX4 := Lib.hid (BX.out.no f4)
  have SE4 := Lib.hid (SE.out.no f4)
  clear f4 s3 F3 BX SE
  go_wp2_with fail
  go_at_call 10
  refine (gnDecTell_any (HB.out.no F4.out) hm1).mono ?_
  rw [HD.out]
  rintro e w5 ⟨ro, rn, rc, sp, mp, cp, eg, rfl, rs, bp, sg, f5⟩
  rw [← HI1.out]
  rw [← HO1.out] at rs
  rw [← HQ.out] at bp
  rw [← HH.out, ← HIN.out] at sg
  have F5 := Lib.hid (F4.out.then_no f5)
  have BX5 := Lib.hid (BX4.out.no f5)
  have SE5 := Lib.hid (SE4.out.no f5)
  have RS5 := Lib.hid rs
  have BP5 := Lib.hid bp
  have SG5 := Lib.hid sg
  have s5 := HCV.out _ _ _ _ _ (HB.out.no F5.out)
  clear f5 rs bp sg BX4 SE4 F4
  go_wp2_with fail
  go_at_call 11
  refine (ref12DecTell_any bs hbl _).mono ?_
  rw [HD.out]
  rintro e w6 ⟨ta, tn, tc, rfl, rt, f6⟩
  rw [← HI1.out, ← HQ.out, ← HH.out, ← HIN.out]
  rw [← HO1.out] at rt
  obtain rfl : tn = rn := by rw [rt.len, RS5.out.len]
  have F6 := Lib.hid (F5.out.then_no f6)
  have BX6 := Lib.hid (BX5.out.no f6)
  have SE6 := Lib.hid (SE5.out.no f6)
  have RS6 := Lib.hid (RS5.out.no f6)
  have RT6 := Lib.hid rt
  have BP6 := Lib.hid (BP5.out.no f6)
  have SG6 := Lib.hid (SG5.out.no f6)
  clear f6 rt s5 BX5 SE5 RS5 BP5 SG5 F5
  have hjc : j ≤ oc := HO.out.le
  go_wp2_with fail
  go_loopw [21] (fun t wr => ∃ k : Nat, t = .int .i64 k ∧ k ≤ j ∧ Fr No w6 wr) (fun t _ => j - (intOf t).toNat)
  case atStart => exact ⟨0, rfl, by omega, Fr.refl _ _⟩
  case round =>
    obtain ⟨k, rfl, hk, hf⟩ := hrel
    have FR := Lib.hid hf
    clear hf
    by_cases hlt : k < j
    · obtain ⟨x, o, rfl, hoo, ⟨bo, bc, g1, g2, g3, g4⟩, hcl⟩ := (HO.out.no (F6.out.then_no FR.out)).get k hlt
      have i1' : (k : Int) < (j : Int) := by omega
      have i2 : (0 : Int) ≤ (k : Int) := by omega
      have i3 : (k : Int).toNat = k := by omega
      obtain ⟨cc, hcc'⟩ : ∃ cc, cc = crit o.typ := ⟨_, rfl⟩
      have HCC := Lib.hid hcc'
      clear hcc' g4 hoo
      go_wp2_with fail
      go_cut [74] (fun t w' => t = .bool false ∧ Fr No wr w')
      case first =>
        go_region_held3 (fun w' => w'.cell? (x.add (k * 3)) = some (.int .u16 (o.cls : Int)) ∧ w'.cell? ⟨(x.add (k * 3)).block, (x.add (k * 3)).off + 1, none⟩ = some (.int .u8 (o.typ.toNat : Int)) ∧ w'.cell? ⟨(x.add (k * 3)).block, (x.add (k * 3)).off + 2, none⟩ = some (.slice bo o.b.length bc))
          (first
            | exact ⟨g1, g2, g3⟩
            | exact ⟨fA.cell g1 (fun h => h), fA.cell g2 (fun h => h), fA.cell g3 (fun h => h)⟩
            | exact ⟨fB.cell g1 (fun h => h), fB.cell g2 (fun h => h), fB.cell g3 (fun h => h)⟩
            | exact ⟨fB.cell (fA.cell g1 (fun h => h)) (fun h => h), fB.cell (fA.cell g2 (fun h => h)) (fun h => h), fB.cell (fA.cell g3 (fun h => h)) (fun h => h)⟩
            | exact ⟨fA.cell (fB.cell g1 (fun h => h)) (fun h => h), fA.cell (fB.cell g2 (fun h => h)) (fun h => h), fA.cell (fB.cell g3 (fun h => h)) (fun h => h)⟩)
          (first
            | (go_at_call 12; refine (critical_any _ o.typ _ rfl).mono ?_; rw [← HCC.out]; rintro e wA ⟨rfl, fA⟩)
            | (go_at_call 13; refine (ref12Critical_any _ o.typ _ _ _).mono ?_; rw [← HCC.out]; rintro e wB ⟨rfl, fB⟩))
        all_goals cases cc
        all_goals go_wp2_with fail
        all_goals go_meet
        all_goals exact ⟨rfl, by first | exact ((Fr.refl No wr).drew.then_no fA).then_no fB | exact ((Fr.refl No wr).drew.then_no fB).then_no fA⟩
      case rest =>
        obtain ⟨rfl, f8⟩ := hcut
        go_wp2_with fail
        go_roundw
        case rel => exact ⟨k + 1, by go_num, by omega, FR.out.then_no f8⟩
        case measure => simp [intOf]; omega
    · have s7 := HCV.out _ _ _ _ _ (BX6.out.no FR.out)
      go_wp2_with fail
      go_at_call 14
      refine (said12_any (HG.out.no (F6.out.then_no FR.out)) (SE6.out.no FR.out)).mono ?_
      rintro e w7 ⟨rfl, f7⟩
      have F7 := Lib.hid (FR.out.then_no f7)
      clear f7 s7 SE6 BX6
      go_wp2_with fail
      go_at_call 15
      refine (same12_true (RS6.out.no F7.out) (RT6.out.no F7.out)).mono ?_
      rintro e w8 ⟨rfl, f8⟩
      have F8 := Lib.hid (F7.out.then_no f8)
      have s8 := HCV.out _ _ _ _ _ (BP6.out.no F8.out)
      clear f8 F7 RS6 RT6
      go_wp2_with fail
      go_at_call 14
      refine (said12_any (HG.out.no (F6.out.then_no F8.out)) (SG6.out.no F8.out)).mono ?_
      rintro e w9 ⟨rfl, f9⟩
      have F9 := Lib.hid (F8.out.then_no f9)
      clear f9 s8 SG6 F8
      go_wp2_with fail
      go_at_call 16
      refine (gnRight_any (HO.out.no (F6.out.then_no F9.out)) (by omega)).mono ?_
      rintro e w10 ⟨er, rfl, sr, f10⟩
      have F10 := Lib.hid (F9.out.then_no f10)
      have SR := Lib.hid sr
      clear f10 sr F9
      go_wp2_with fail
      go_at_call 17
      refine (ref12Right_any (HO.out.no (F6.out.then_no F10.out)) (by omega)).mono ?_
      rintro e w11 ⟨rfl, rfl⟩
      go_wp2_with fail
      go_at_call 14
      refine (said12_any (HG.out.no (F6.out.then_no F10.out)) SR.out).mono ?_
      rintro e w12 ⟨rfl, f12⟩
      have F12 := Lib.hid (F10.out.then_no f12)
      clear f12
      go_wp2_with fail
      go_ret
      exact ⟨rfl, F6.out.then_no F12.out⟩

end Go.Proofs.YtjbieljlhjfpiaaDoor
