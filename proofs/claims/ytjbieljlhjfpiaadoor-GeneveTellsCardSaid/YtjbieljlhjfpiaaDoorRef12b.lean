/- The reference of layer 12: Encap. -/
import Derived.Test.YtjbieljlhjfpiaaDoorRef12
import Derived.Test.YtjbieljlhjfpiaaDoorStr
import Derived.Deep.RegionHeld3
import Derived.Deep.RegionWith
import Derived.StillTailTactics
import Derived.Deep.DeepCutAuto
namespace Go.Proofs.YtjbieljlhjfpiaaDoor
open Go.RowKit
set_option linter.unusedVariables false

/-- What the reference's Encap tells. -/
def gnR (id : Int) (os : List Opt) (fs : List UInt8) : List UInt8 × Int :=
  if 16777216 ≤ id then ([], 1) else if rightN os ≠ 0 then ([], rightN os) else if sizeN fs.length ≠ 0 then ([], sizeN fs.length) else (gnOut id os fs, 0)
def E12 (w : World) (r : List UInt8 × Int) (e : Ending) (w' : World) : Prop := e = .returned (.tuple #[.string ⟨r.1.toArray⟩, .int .i64 r.2]) ∧ Fr No w w'

theorem u8_mod (x : Int) : u8 (x % 256) = u8 x := by simp only [u8]; congr 1; omega
theorem b4_three (id : Int) : b4 (id * 256) = three id ++ [0] := by
  have e : ∀ x y : Int, x % 256 = y % 256 → u8 x = u8 y := fun x y h => by simp only [u8, h]
  simp only [b4, three, List.cons_append, List.nil_append]
  rw [e (id * 256 / 16777216) (id / 65536) (by omega), e (id * 256 / 65536) (id / 256) (by omega), e (id * 256 / 256) id (by omega), e (id * 256) 0 (by omega)]
  rfl
theorem ref12Encap_no {w : World} {oo : Option Addr} {on oc : Nat} {os : List Opt} (id : Int) (h0 : 0 ≤ id) (h1 : id < 4294967296) (fs : List UInt8) (hn : fs.length ≤ 10000) (ho : Rs w oo on oc os) (hon : on ≤ 1000)
    (hno : ¬ (id < 16777216 ∧ rightN os = 0 ∧ sizeN fs.length = 0)) : Calls Tryd.prog 9 #[.int .u32 id, .slice oo on oc, .string ⟨fs.toArray⟩] w (E12 w (gnR id os fs)) := by
  have hsz := strSize fs
  have HO := Lib.hid ho
  clear ho
  by_cases hid : 16777216 ≤ id
  · have e : gnR id os fs = ([], 1) := if_pos hid
    rw [e]
    clear hno e
    go_enter Tryd.func9, Tryd.ntmps9
    go_wp2
    go_ret2
    exact ⟨rfl, Fr.refl _ _⟩
  · have hid' : id < 16777216 := by omega
    by_cases hr : rightN os = 0
    · have hs : ¬ sizeN fs.length = 0 := fun h => hno ⟨hid', hr, h⟩
      have e : gnR id os fs = ([], sizeN fs.length) := by unfold gnR; rw [if_neg hid, if_neg (by simp [hr]), if_pos hs]
      rw [e]
      have HR := Lib.hid hr
      clear hno e hr
      go_enter Tryd.func9, Tryd.ntmps9
      go_wp2_with (first
        | (go_at_call 17; refine (ref12Right_any HO.out hon).mono ?_; rw [HR.out]; rintro e w1 ⟨rfl, rfl⟩)
        | (go_at_call 28; refine (ref11Size_any fs.length _).mono ?_; rintro e w1 ⟨rfl, rfl⟩))
      go_ret2
      exact ⟨rfl, Fr.refl _ _⟩
    · have e : gnR id os fs = ([], rightN os) := by unfold gnR; rw [if_neg hid, if_pos hr]
      rw [e]
      obtain ⟨c, hc⟩ : ∃ c, c = rightN os := ⟨_, rfl⟩
      rw [← hc] at hr ⊢
      have HC := Lib.hid hc
      clear hno e hc
      go_enter Tryd.func9, Tryd.ntmps9
      go_wp2_with (first
        | (go_at_call 17; refine (ref12Right_any HO.out hon).mono ?_; rw [← HC.out]; rintro e w1 ⟨rfl, rfl⟩))
      go_ret2
      exact ⟨rfl, Fr.refl _ _⟩

set_option maxHeartbeats 1600000 in
set_option maxRecDepth 100000 in
theorem ref12Encap_ok {w : World} {oo : Option Addr} {on oc : Nat} {os : List Opt} (id : Int) (h0 : 0 ≤ id) (h1 : id < 16777216) (fs : List UInt8) (hn : fs.length ≤ 10000) (ho : Rs w oo on oc os) (hon : on ≤ 1000)
    (hr : rightN os = 0) (hs : sizeN fs.length = 0) : Calls Tryd.prog 9 #[.int .u32 id, .slice oo on oc, .string ⟨fs.toArray⟩] w (E12 w (gnOut id os fs, 0)) := by
  have hsz := strSize fs
  have HO := Lib.hid ho
  have HR := Lib.hid hr
  have HS := Lib.hid hs
  have HN := Lib.hid ho.len
  have RZ := Lib.hid (right_zero hr)
  clear ho hr hs
  obtain ⟨S, hS⟩ : ∃ S : ByteArray, S = ⟨fs.toArray⟩ := ⟨_, rfl⟩
  rw [← hS] at hsz ⊢
  have HSS := Lib.hid hS
  clear hS
  have hle := HO.out.le
  have hcc := HO.out.capLe
  go_enter Tryd.func9, Tryd.ntmps9
  go_wp2_with (first
    | (go_at_call 17; refine (ref12Right_any HO.out hon).mono ?_; rw [HR.out]; rintro e w1 ⟨rfl, rfl⟩)
    | (go_at_call 28; refine (ref11Size_any fs.length _).mono ?_; rw [HS.out]; rintro e w1 ⟨rfl, rfl⟩))
  go_loopw [9, 10] (fun t9 t10 wr => ∃ k : Nat, t10 = .int .i64 k ∧ k ≤ on ∧ t9 = .string ⟨(optsB (os.take k)).toArray⟩ ∧ Fr No w wr) (fun _ t _ => on - (intOf t).toNat)
  case atStart => exact ⟨0, rfl, by omega, rfl, Fr.refl _ _⟩
  case round =>
    obtain ⟨k, rfl, hk, rfl, hf⟩ := hrel
    have F1 := Lib.hid hf
    obtain ⟨X, hX⟩ : ∃ X : ByteArray, X = ⟨(optsB (os.take k)).toArray⟩ := ⟨_, rfl⟩
    have hxs : X.size ≤ 252 := by rw [hX, strSize, optsB_length]; have := RZ.out.2; have := osum_take os k; omega
    rw [← hX]
    have HX := Lib.hid hX
    clear hX
    by_cases hlt : k < on
    · obtain ⟨a, o, rfl, ho, ⟨bo, bc, g1, g2, g3, g4⟩, hcl⟩ := (HO.out.no hf).get k hlt
      have hob : o.b.length ≤ 124 := by
        have := RZ.out.1 o (List.mem_of_getElem? ho)
        simp [badO] at this; omega
      have HOO := Lib.hid ho
      have hsb := strSize o.b
      have lt := o.typ.toNat_lt
      have m4 := fun wx => made4 wx ((o.cls : Int) / 256) ((o.cls : Int) % 256) (o.typ.toNat : Int) ((o.b.length : Int) / 4) (by omega) (by omega) (by omega) (by omega)
      have q0 := bytes_text ((m4 wr).no ((Fr.refl No _).drew)).bs
      have q1 := bytes_text (g4.no ((Fr.refl No wr).drew))
      have q2 := bytes_text (g4.no (((Fr.refl No wr).alloc (.cells #[.int .u8 ((o.cls : Int) / 256), .int .u8 ((o.cls : Int) % 256), .int .u8 (o.typ.toNat : Int), .int .u8 ((o.b.length : Int) / 4)] 5)).drew))
      have i1 : (k : Int) < (on : Int) := by omega
      have i2 : (0 : Int) ≤ (k : Int) := by omega
      have i3 : (k : Int).toNat = k := by omega
      have x1 : IntKind.u16.wrap ((o.cls : Int).tdiv 256) = (o.cls : Int) / 256 := by rw [Int.tdiv_eq_ediv_of_nonneg (by omega), IntKind.wrap_u16]; omega
      have x2 : IntKind.u8.wrap ((o.cls : Int) / 256) = (o.cls : Int) / 256 := by rw [IntKind.wrap_u8]; omega
      have x3 : (o.cls : Int).tmod 256 = (o.cls : Int) % 256 := Int.tmod_eq_emod_of_nonneg (by omega)
      have x4 : IntKind.u8.wrap ((o.cls : Int) % 256) = (o.cls : Int) % 256 := by rw [IntKind.wrap_u8]; omega
      have x5 : IntKind.i64.wrap ((o.b.length : Int).tdiv 4) = (o.b.length : Int) / 4 := by rw [Int.tdiv_eq_ediv_of_nonneg (by omega), IntKind.wrap_i64]; omega
      have x6 : IntKind.u8.wrap ((o.b.length : Int) / 4) = (o.b.length : Int) / 4 := by rw [IntKind.wrap_u8]; omega
      have g1' := (((Fr.refl No wr).alloc (.cells #[.int .u8 ((o.cls : Int) / 256), .int .u8 ((o.cls : Int) % 256), .int .u8 (o.typ.toNat : Int), .int .u8 ((o.b.length : Int) / 4)] 5)).drew).cell g1 (fun h => h)
      have g2' := (((Fr.refl No wr).alloc (.cells #[.int .u8 ((o.cls : Int) / 256), .int .u8 ((o.cls : Int) % 256), .int .u8 (o.typ.toNat : Int), .int .u8 ((o.b.length : Int) / 4)] 5)).drew).cell g2 (fun h => h)
      have g3' := (((Fr.refl No wr).alloc (.cells #[.int .u8 ((o.cls : Int) / 256), .int .u8 ((o.cls : Int) % 256), .int .u8 (o.typ.toNat : Int), .int .u8 ((o.b.length : Int) / 4)] 5)).drew).cell g3 (fun h => h)
      clear g4 ho m4 hf
      go_wp2_with fail
      go_region
      clear q0 q1 q2 x1 x2 x3 x4 x5 x6 g1' g2' g3' g1 g2 g3
      go_wp2_with fail
      go_roundw
      case rel =>
        refine ⟨k + 1, by go_num, by omega, ?_, (F1.out.alloc _).drew⟩
        rw [HX.out, take_snoc HOO.out, optsB_snoc]
        refine congrArg Value.string (ByteArray.ext ?_)
        simp [ByteArray.data_append, optB, b2, u8_byte, u8_mod]
      case measure => simp [intOf]; omega
    · have hall : os.take k = os := List.take_of_length_le (by rw [← HN.out]; omega)
      have hxn : X.size = osum os := by rw [HX.out, strSize, optsB_length, hall]
      have HXN := Lib.hid hxn
      have HXO : Hid (X = ⟨(optsB os).toArray⟩) := Lib.hid (by rw [HX.out, hall])
      clear hall hxn hf HX
      go_upto_if 69 with (first
        | (go_at_call 29; refine (ref12some_any (HO.out.no F1.out)).mono ?_; rintro e w1 ⟨rfl, rfl⟩))
      go_cut [11] (fun t11 w' => t11 = .int .u8 (gflag (anyCrit os)) ∧ w' = wr)
      case first =>
        cases hac : anyCrit os
        · go_wp2_with fail
          go_meet
          case rel => exact ⟨by rw [hac]; rfl, rfl⟩
        · go_wp2_with fail
          go_meet
          case rel => exact ⟨by rw [hac]; rfl, rfl⟩
      case rest =>
        obtain ⟨rfl, rfl⟩ := hcut
        obtain ⟨G, hG⟩ : ∃ G, G = gflag (anyCrit os) := ⟨_, rfl⟩
        have hg : 0 ≤ G ∧ G < 256 := by rw [hG]; unfold gflag; split <;> omega
        rw [← hG]
        have HG := Lib.hid hG
        clear hG
        obtain ⟨tt, hT⟩ : ∃ tt : ByteArray, tt = ⟨(three id).toArray⟩ := ⟨_, rfl⟩
        have HT := Lib.hid hT
        have ht3 : tt.size = 3 := by rw [hT]; rfl
        clear hT
        have m4 := fun wx => made4 wx ((X.size : Int) / 4) G 101 88 (by omega) hg (by omega) (by omega)
        have q0 := bytes_text ((m4 wc).no ((Fr.refl No _).drew)).bs
        have qa := fun wx => bytes_text (m4 wx).bs
        have M4 := Lib.hid m4
        have x1 : IntKind.i64.wrap ((X.size : Int).tdiv 4) = (X.size : Int) / 4 := by rw [Int.tdiv_eq_ediv_of_nonneg (by omega), IntKind.wrap_i64]; omega
        have x2 : IntKind.u8.wrap ((X.size : Int) / 4) = (X.size : Int) / 4 := by rw [IntKind.wrap_u8]; omega
        have x3 : IntKind.i64.wrap ((X.size : Int) / 4) = (X.size : Int) / 4 := by rw [IntKind.wrap_i64]; omega
        clear m4
        go_wp2_with fail
        go_region_with ((go_at_call 30; refine (ref11Three_any _ h0 h1 _).mono ?_; rw [← HT.out]; rintro e w1 ⟨rfl, f1⟩; try have hx := bytes_text (((M4.out wc).no ((Fr.refl No _).drew)).no f1).bs))
        all_goals go_wp2_with fail
        all_goals go_ret2
        all_goals refine ⟨?_, F1.out.then_no (by first | exact (((Fr.refl No wc).alloc _).drew).then_no f1 | exact (((Fr.refl No wc).drew).then_no f1).alloc _)⟩
        all_goals
          refine congrArg (fun x => Ending.returned (.tuple #[.string x, .int .i64 0])) (ByteArray.ext ?_)
          rw [HXN.out, HXO.out, HT.out, HSS.out, HG.out]
          have e4 : b2 25944 = [101, 88] := by decide +kernel
          simp [ByteArray.data_append, gnOut, b4_three, e4]
          decide

theorem ref12Encap_any {w : World} {oo : Option Addr} {on oc : Nat} {os : List Opt} (id : Int) (h0 : 0 ≤ id) (h1 : id < 4294967296) (fs : List UInt8) (hn : fs.length ≤ 10000) (ho : Rs w oo on oc os) (hon : on ≤ 1000) :
    Calls Tryd.prog 9 #[.int .u32 id, .slice oo on oc, .string ⟨fs.toArray⟩] w (E12 w (gnR id os fs)) := by
  by_cases h : id < 16777216 ∧ rightN os = 0 ∧ sizeN fs.length = 0
  · have e : gnR id os fs = (gnOut id os fs, 0) := by unfold gnR; rw [if_neg (by omega), if_neg (by simp [h.2.1]), if_neg (by simp [h.2.2])]
    rw [e]
    exact ref12Encap_ok id h0 h.1 fs hn ho hon h.2.1 h.2.2
  · exact ref12Encap_no id h0 h1 fs hn ho hon h

end Go.Proofs.YtjbieljlhjfpiaaDoor
