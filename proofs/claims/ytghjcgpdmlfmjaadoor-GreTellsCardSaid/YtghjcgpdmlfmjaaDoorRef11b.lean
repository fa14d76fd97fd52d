/- The reference of layer 11: Encap, Decap. -/
import Derived.Test.YtghjcgpdmlfmjaaDoorRef11
import Derived.Test.YtghjcgpdmlfmjaaDoorVx
import Derived.Deep.RegionHeld3
namespace Go.Proofs.YtghjcgpdmlfmjaaDoor
open Go.RowKit
set_option linter.unusedVariables false

theorem strSize (bs : List UInt8) : (({ data := bs.toArray } : ByteArray)).size = bs.length := by simp [ByteArray.size]
/-- What Encap tells: bytes, or what is wrong. -/
def encR (id : Int) (fs : List UInt8) : List UInt8 × Int := if 16777216 ≤ id then ([], 1) else if sizeN fs.length ≠ 0 then ([], sizeN fs.length) else ([8, 0, 0, 0] ++ three id ++ [0] ++ fs, 0)
theorem ref11Encap_any (id : Int) (h0 : 0 ≤ id) (h1 : id < 4294967296) (fs : List UInt8) (hn : fs.length ≤ 10000) (w : World) :
    Calls Tryd.prog 8 #[.int .u32 id, .string ⟨fs.toArray⟩] w fun e w' => e = .returned (.tuple #[.string ⟨(encR id fs).1.toArray⟩, .int .i64 (encR id fs).2]) ∧ Fr No w w' := by
  have hsz := strSize fs
  by_cases hid : 16777216 ≤ id
  · have e : encR id fs = ([], 1) := if_pos hid
    rw [e]
    go_enter Tryd.func8, Tryd.ntmps8
    go_wp2
    go_ret2
    exact ⟨rfl, Fr.refl _ _⟩
  · have hid' : id < 16777216 := by omega
    by_cases hs : sizeN fs.length = 0
    · have e : encR id fs = ([8, 0, 0, 0] ++ three id ++ [0] ++ fs, 0) := by unfold encR; rw [if_neg hid, if_neg (by simp [hs])]
      rw [e]
      have HS := Lib.hid hs
      clear hs e
      obtain ⟨tt, hT⟩ : ∃ tt : ByteArray, tt = ⟨(three id).toArray⟩ := ⟨_, rfl⟩
      have ht3 : tt.size = 3 := by rw [hT]; rfl
      have HT := Lib.hid hT
      clear hT
      obtain ⟨S, hS⟩ : ∃ S : ByteArray, S = ⟨fs.toArray⟩ := ⟨_, rfl⟩
      rw [← hS] at hsz ⊢
      have HSS := Lib.hid hS
      clear hS
      go_enter Tryd.func8, Tryd.ntmps8
      go_wp2_with (first
        | (go_at_call 26; refine (ref11Size_any fs.length _).mono ?_; rw [HS.out]; rintro e w1 ⟨rfl, rfl⟩)
        | (go_at_call 27; refine (ref11Three_any id h0 hid' _).mono ?_; rw [← HT.out]; rintro e w2 ⟨rfl, f2⟩; have F2 := Lib.hid f2; clear f2))
      go_ret2
      refine ⟨?_, F2.out⟩
      have he : (⟨([8, 0, 0, 0] ++ three id ++ [0] ++ fs).toArray⟩ : ByteArray) = ⟨#[8, 0, 0, 0]⟩ ++ tt ++ ⟨#[0]⟩ ++ S := by
        rw [HT.out, HSS.out]
        apply ByteArray.ext
        simp [ByteArray.data_append]
      show _ = Ending.returned (.tuple #[.string ⟨([8, 0, 0, 0] ++ three id ++ [0] ++ fs).toArray⟩, .int .i64 0])
      rw [he]
      rfl
    · have e : encR id fs = ([], sizeN fs.length) := by unfold encR; rw [if_neg hid, if_pos hs]
      rw [e]
      have hne : ¬ sizeN fs.length = 0 := hs
      clear e hs
      go_enter Tryd.func8, Tryd.ntmps8
      go_wp2_with (first
        | (go_at_call 26; refine (ref11Size_any fs.length _).mono ?_; rintro e w1 ⟨rfl, rfl⟩))
      go_ret2
      exact ⟨rfl, Fr.refl _ _⟩

theorem ref11Number_s (s : ByteArray) (h : s.size ≤ 4) (w : World) : Calls Tryd.prog 32 #[.string s] w fun e w' => e = .returned (.int .u32 (be s.data.toList : Nat)) ∧ w = w' := by
  have h1 := ref11Number_any s.data.toList (by rw [Array.length_toList]; exact h) w
  have e : (⟨s.data.toList.toArray⟩ : ByteArray) = s := by
    apply ByteArray.ext
    exact Array.toArray_toList
  rw [e] at h1
  exact h1
theorem extract_toList (bs : List UInt8) (a b : Nat) : (({ data := bs.toArray } : ByteArray).extract a b).data.toList = (bs.drop a).take (b - a) := by
  rw [ByteArray.data_extract, Array.toList_extract]
theorem extract_str (bs : List UInt8) (a b : Nat) : ({ data := bs.toArray } : ByteArray).extract a b = ⟨((bs.drop a).take (b - a)).toArray⟩ := by
  apply ByteArray.ext
  apply Array.toList_inj.1
  rw [extract_toList]

/-- What Decap tells. -/
def decR (bs : List UInt8) : Int × List UInt8 × Int :=
  if bs.length < 8 then (0, [], 2) else if (bs.getD 0 0).toNat / 8 % 2 = 0 then (0, [], 3) else if sizeN ((bs.length - 8 : Nat) : Int) ≠ 0 then (0, [], sizeN ((bs.length - 8 : Nat) : Int)) else ((be ((bs.drop 4).take 3) : Nat), bs.drop 8, 0)
set_option maxRecDepth 100000 in
theorem ref11Decap_any (bs : List UInt8) (hn : bs.length ≤ 10000) (w : World) :
    Calls Tryd.prog 10 #[.string ⟨bs.toArray⟩] w fun e w' => e = .returned (.tuple #[.int .u32 (decR bs).1, .string ⟨(decR bs).2.1.toArray⟩, .int .i64 (decR bs).2.2]) ∧ Fr No w w' := by
  have hsz := strSize bs
  by_cases h8 : bs.length < 8
  · have e : decR bs = (0, [], 2) := if_pos h8
    rw [e]
    clear e
    go_enter Tryd.func10, Tryd.ntmps10
    go_wp2
    go_ret3
    exact ⟨rfl, Fr.refl _ _⟩
  · obtain ⟨c, hc⟩ : ∃ c, bs[0]? = some c := at_lt (by omega)
    have hc0 : bs.getD 0 0 = c := by simp [List.getD, hc]
    have hix : ∀ h, (({ data := bs.toArray } : ByteArray)[0]'h) = c := fun h => by
      have : bs[0]'(by omega) = c := by have := List.getElem?_eq_getElem (show 0 < bs.length by omega); rw [hc] at this; exact (Option.some.inj this).symm
      exact this
    have hcl := c.toNat_lt
    by_cases hk : c.toNat / 8 % 2 = 0
    · have e : decR bs = (0, [], 3) := by unfold decR; rw [if_neg h8, hc0, if_pos hk]
      rw [e]
      have hki : (c.toNat : Int) / 8 % 2 = 0 := by omega
      clear e hc hc0
      go_enter Tryd.func10, Tryd.ntmps10
      go_wp2
      go_ret3
      exact ⟨rfl, Fr.refl _ _⟩
    · have hki : ¬ (c.toNat : Int) / 8 % 2 = 0 := by omega
      have hw : IntKind.i64.wrap ((bs.length : Int) - 8) = ((bs.length - 8 : Nat) : Int) := by rw [IntKind.wrap_i64]; omega
      by_cases hs : sizeN ((bs.length - 8 : Nat) : Int) = 0
      · have e : decR bs = (((be ((bs.drop 4).take 3) : Nat) : Int), bs.drop 8, (0 : Int)) := by unfold decR; rw [if_neg h8, hc0, if_neg hk, if_neg (by simp [hs])]
        rw [e]
        have HS := Lib.hid hs
        have HW := Lib.hid hw
        clear e hc hc0 hs hw
        go_enter Tryd.func10, Tryd.ntmps10
        go_wp2_with (first
          | (go_at_call 26; rw [show ((bs.length : Int) - 8) = ((bs.length - 8 : Nat) : Int) by omega]; refine (ref11Size_any _ _).mono ?_; rw [HS.out]; rintro e w1 ⟨rfl, rfl⟩))
        have b1 : (7 : Int) ≤ (bs.length : Int) := by omega
        have b2 : (8 : Int) ≤ (bs.length : Int) := by omega
        have hx := fun (wx : World) => ref11Number_s (({ data := bs.toArray } : ByteArray).extract 4 7) (by rw [ByteArray.size_extract]; omega) wx
        have HX := Lib.hid hx
        clear hx
        go_region_held3 (fun w' => True) (trivial) (first | (go_at_call 32; refine (HX.out _).mono ?_; rintro e w1 ⟨rfl, rfl⟩))
        go_wp2_with fail
        go_ret3
        refine ⟨?_, (Fr.refl No w).drew⟩
        have hxx : ({ data := bs.toArray } : ByteArray).extract 8 bs.length = ⟨(bs.drop 8).toArray⟩ := by
          rw [extract_str, List.take_of_length_le (by rw [List.length_drop]; exact Nat.le_refl _)]
        show _ = Ending.returned (.tuple #[.int .u32 ((be ((bs.drop 4).take 3) : Nat) : Int), .string ⟨(bs.drop 8).toArray⟩, .int .i64 0])
        rw [← hxx]
        rfl
      · have e : decR bs = (0, [], sizeN ((bs.length - 8 : Nat) : Int)) := by unfold decR; rw [if_neg h8, hc0, if_neg hk, if_pos hs]
        rw [e]
        have hne : ¬ sizeN ((bs.length - 8 : Nat) : Int) = 0 := hs
        clear e hc hc0 hs hw
        go_enter Tryd.func10, Tryd.ntmps10
        go_wp2_with (first
          | (go_at_call 26; rw [show ((bs.length : Int) - 8) = ((bs.length - 8 : Nat) : Int) by omega]; refine (ref11Size_any _ _).mono ?_; rintro e w1 ⟨rfl, rfl⟩))
        go_ret3
        exact ⟨rfl, Fr.refl _ _⟩

end Go.Proofs.YtghjcgpdmlfmjaaDoor
