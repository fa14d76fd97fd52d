/- The reference of layer 13: Encap. -/
import Derived.Test.YtghjcgpdmlfmjaaDoorRef13
import Derived.Test.YtghjcgpdmlfmjaaDoorGre5
namespace Go.Proofs.YtghjcgpdmlfmjaaDoor
open Go.RowKit
set_option linter.unusedVariables false

theorem ref02Sum_s (s : ByteArray) (h : s.size ≤ 20000) (w : World) : Calls Tryd.prog 41 #[.string s] w fun e w' => e = .returned (.int .u16 (sumS s.data.toList)) ∧ Fr No w w' := by
  have h1 := ref02Sum_any s.data.toList (by rw [Array.length_toList]; exact h) w
  have e : (⟨s.data.toList.toArray⟩ : ByteArray) = s := by
    apply ByteArray.ext
    exact Array.toArray_toList
  rw [e] at h1
  exact h1
/-- What the reference's Encap tells. -/
def greR (s k : Bool) (key : Int) (q : Bool) (seq : Int) (fs : List UInt8) : List UInt8 × Int := if sizeN fs.length ≠ 0 then ([], sizeN fs.length) else (greOut s k key q seq fs, 0)
/-- One byte, as a slice that is made and read as a text at once. -/
theorem one_text (w : World) (x : Int) (h0 : 0 ≤ x) (h1 : x < 256) : (convert 23 9 (.slice (some ⟨w.heap.size, 0, none⟩) 1 1)).run Tryd.prog (w.alloc (.cells #[.int .u8 x] 5)) = .ok (.string ⟨#[u8 x]⟩) (w.alloc (.cells #[.int .u8 x] 5)) :=
  run_bytes_string (P := Tryd.prog) _ 23 9 5 (OB.made (w := w) (e := 5) [u8 x] (by simp) (cs := #[.int .u8 x]) (by simp [bytesV, byteV, u8_toNat]; omega) (n := 1) rfl rfl).bs Tryd.underlying23 Tryd.underlying5 Tryd.underlying9
theorem two_text (w : World) (x y : Int) (h0 : 0 ≤ x) (h1 : x < 256) (k0 : 0 ≤ y) (k1 : y < 256) : (convert 23 9 (.slice (some ⟨w.heap.size, 0, none⟩) 2 2)).run Tryd.prog (w.alloc (.cells #[.int .u8 x, .int .u8 y] 5)) = .ok (.string ⟨#[u8 x, u8 y]⟩) (w.alloc (.cells #[.int .u8 x, .int .u8 y] 5)) :=
  run_bytes_string (P := Tryd.prog) _ 23 9 5 (OB.made (w := w) (e := 5) [u8 x, u8 y] (by simp) (cs := #[.int .u8 x, .int .u8 y]) (by simp [bytesV, byteV, u8_toNat]; omega) (n := 2) rfl rfl).bs Tryd.underlying23 Tryd.underlying5 Tryd.underlying9

/-- The flags' first byte, the sum's flag aside. -/
def flb (k q : Bool) : Int := flg k 32 + flg q 16
theorem flb_lt (k q : Bool) : 0 ≤ flb k q ∧ flb k q < 128 := by cases k <;> cases q <;> decide
theorem flags_b2 (s k q : Bool) : b2 (flags s k q) = [u8 (flb k q + flg s 128), 0] := by cases s <;> cases k <;> cases q <;> decide +kernel
def restB (k : Bool) (key : Int) (q : Bool) (seq : Int) (fs : List UInt8) : List UInt8 := opt k (b4 key) ++ opt q (b4 seq) ++ fs
theorem greOut_false (k : Bool) (key : Int) (q : Bool) (seq : Int) (fs : List UInt8) : greOut false k key q seq fs = u8 (flb k q) :: 0 :: 101 :: 88 :: restB k key q seq fs := by
  have e : b2 25944 = [101, 88] := by decide +kernel
  simp [greOut, greBase, restB, flags_b2, e, opt, flg]
theorem greBase_true (k : Bool) (key : Int) (q : Bool) (seq : Int) (fs : List UInt8) : greBase true k key q seq fs = u8 (flb k q + 128) :: 0 :: 101 :: 88 :: 0 :: 0 :: 0 :: 0 :: restB k key q seq fs := by
  have e : b2 25944 = [101, 88] := by decide +kernel
  have e0 : b4 0 = [0, 0, 0, 0] := by decide +kernel
  simp [greBase, restB, flags_b2, e, e0, opt, flg]
theorem greOut_true (k : Bool) (key : Int) (q : Bool) (seq : Int) (fs : List UInt8) : greOut true k key q seq fs = u8 (flb k q + 128) :: 0 :: 101 :: 88 :: u8 ((sumS (greBase true k key q seq fs) : Int) / 256) :: u8 (sumS (greBase true k key q seq fs)) :: 0 :: 0 :: restB k key q seq fs := by
  simp only [greOut, if_true, summed]
  generalize sumS (greBase true k key q seq fs) = x
  rw [greBase_true]
  rfl

set_option maxRecDepth 100000 in
theorem ref13Encap_no (s k : Bool) (key : Int) (q : Bool) (seq : Int) (fs : List UInt8) (hn : fs.length ≤ 10000) (hs : ¬ sizeN fs.length = 0) (w : World) :
    Calls Tryd.prog 15 #[.agg #[.bool s, .bool k, .int .u32 key, .bool q, .int .u32 seq], .string ⟨fs.toArray⟩] w fun e w' => e = .returned (.tuple #[.string ⟨#[]⟩, .int .i64 (sizeN fs.length)]) ∧ Fr No w w' := by
  have hsz := strSize fs
  have F0 := Lib.hid ((Fr.refl No w).alloc (.cells #[.bool s, .bool k, .int .u32 key, .bool q, .int .u32 seq] 43))
  go_enter Tryd.func15, Tryd.ntmps15
  go_wp2_with (first
    | (go_at_call 26; refine (ref11Size_any fs.length _).mono ?_; rintro e w1 ⟨rfl, rfl⟩))
  go_ret2
  exact ⟨rfl, F0.out⟩

set_option maxRecDepth 100000 in
theorem ref13Encap_ok (s k : Bool) (key : Int) (q : Bool) (seq : Int) (hk0 : 0 ≤ key) (hk1 : key < 4294967296) (hq0 : 0 ≤ seq) (hq1 : seq < 4294967296) (fs : List UInt8) (hn : fs.length ≤ 10000) (hs : sizeN fs.length = 0) (w : World) :
    Calls Tryd.prog 15 #[.agg #[.bool s, .bool k, .int .u32 key, .bool q, .int .u32 seq], .string ⟨fs.toArray⟩] w fun e w' => e = .returned (.tuple #[.string ⟨(greOut s k key q seq fs).toArray⟩, .int .i64 0]) ∧ Fr No w w' := by
  have HS := Lib.hid hs
  clear hs
  have hsz := strSize fs
  obtain ⟨S, hS⟩ : ∃ S : ByteArray, S = ⟨fs.toArray⟩ := ⟨_, rfl⟩
  rw [← hS] at hsz ⊢
  have HSS := Lib.hid hS
  clear hS
  have X0 := Lib.hid (heap_alloc_new w (.cells #[.bool s, .bool k, .int .u32 key, .bool q, .int .u32 seq] 43))
  have F0 := Lib.hid ((Fr.refl No w).alloc (.cells #[.bool s, .bool k, .int .u32 key, .bool q, .int .u32 seq] 43))
  go_enter Tryd.func15, Tryd.ntmps15
  go_upto_if 18 with (first
    | (go_at_call 26; refine (ref11Size_any fs.length _).mono ?_; rw [HS.out]; rintro e w1 ⟨rfl, rfl⟩))
  generalize w.alloc (.cells #[.bool s, .bool k, .int .u32 key, .bool q, .int .u32 seq] 43) = w0 at *
  obtain ⟨c0, c1, c2, c3, c4⟩ := cells5 X0.out
  go_cut [7, 8] (fun t7 t8 wc => t7 = .int .u8 (flg k 32) ∧ t8 = .string ⟨(opt k (b4 key)).toArray⟩ ∧ Fr No w0 wc)
  case first =>
    cases k
    · go_wp2_with fail
      go_meet
      case rel => exact ⟨rfl, rfl, Fr.refl _ _⟩
    · go_wp2_with (go_at_call 40; refine (ref13Four_any key hk0 hk1 _).mono ?_; rintro e w2 ⟨rfl, f2⟩)
      go_meet
      case rel => exact ⟨rfl, congrArg Value.string (ByteArray.ext (by simp [ByteArray.data_append, opt])), f2⟩
  case rest =>
    obtain ⟨rfl, rfl, f2⟩ := hcut
    obtain ⟨R, hR⟩ : ∃ R : ByteArray, R = ⟨(opt k (b4 key)).toArray⟩ := ⟨_, rfl⟩
    have hr4 : R.size ≤ 4 := by rw [hR, strSize]; exact opt4_le k key
    have HR := Lib.hid hR
    rw [← hR]
    have hk32 : 0 ≤ flg k 32 ∧ flg k 32 ≤ 32 := by cases k <;> decide
    clear hR c0 c1 c2 c3 c4
    have x2 := f2.heap X0.out (fun h => h)
    have X2 := Lib.hid x2
    have F2 := Lib.hid (F0.out.trans f2)
    obtain ⟨c0, c1, c2, c3, c4⟩ := cells5 x2
    clear X0 F0 f2 x2
    go_upto_if 27 with fail
    go_cut [7, 8] (fun t7 t8 w' => t7 = .int .u8 (flb k q) ∧ t8 = .string (R ++ ⟨(opt q (b4 seq)).toArray⟩) ∧ Fr No wc w')
    case first =>
      cases q
      · go_wp2_with fail
        go_meet
        case rel => exact ⟨by simp [flb, flg], by exact congrArg Value.string (ByteArray.ext (by simp [ByteArray.data_append, opt])), Fr.refl _ _⟩
      · have hb4 : ({ data := (b4 seq).toArray } : ByteArray).size = 4 := rfl
        go_wp2_with (go_at_call 40; refine (ref13Four_any seq hq0 hq1 _).mono ?_; rintro e w2 ⟨rfl, f2⟩)
        go_meet
        case rel => exact ⟨by simp [flb, flg], rfl, f2⟩
    case rest =>
      obtain ⟨rfl, rfl, f3⟩ := hcut
      obtain ⟨R2, hR2⟩ : ∃ R2 : ByteArray, R2 = R ++ ⟨(opt q (b4 seq)).toArray⟩ := ⟨_, rfl⟩
      have hr8 : R2.size ≤ 8 := by have e1 := opt4_le q seq; have e2 := strSize (opt q (b4 seq)); rw [hR2, ByteArray.size_append, e2]; omega
      have HR2 := Lib.hid hR2
      rw [← hR2]
      obtain ⟨F, hF⟩ : ∃ F : Int, F = flb k q := ⟨_, rfl⟩
      have hf0 : 0 ≤ F ∧ F < 128 := by rw [hF]; exact flb_lt k q
      have HF := Lib.hid hF
      rw [← hF]
      clear hR2 c0 c1 c2 c3 c4 hr4 hk32 hF
      have x3 := f3.heap X2.out (fun h => h)
      have X3 := Lib.hid x3
      have F3 := Lib.hid (F2.out.trans f3)
      obtain ⟨c0, c1, c2, c3, c4⟩ := cells5 x3
      clear X2 F2 f3 x3
      have HB : Hid ((R2 ++ S).data.toList = restB k key q seq fs) := Lib.hid (by rw [HR2.out, HR.out, HSS.out]; simp [ByteArray.data_append, restB])
      have hL : (R2 ++ S).size ≤ 10008 := by rw [ByteArray.size_append]; omega
      cases s
      · have ht := one_text wc F (by omega) (by omega)
        have F4 := Lib.hid (F3.out.alloc (.cells #[.int .u8 F] 5))
        go_wp2_with fail
        go_ret2
        refine ⟨?_, F4.out⟩
        rw [greOut_false, ← HB.out, ← HF.out]
        refine congrArg (fun x => Ending.returned (.tuple #[.string x, .int .i64 0])) (ByteArray.ext ?_)
        simp [ByteArray.data_append]
      · have ht := one_text wc (F + 128) (by omega) (by omega)
        have F4 := Lib.hid (F3.out.alloc (.cells #[.int .u8 (F + 128)] 5))
        obtain ⟨X, hX⟩ : ∃ X : ByteArray, X = ⟨#[u8 (F + 128)]⟩ ++ ⟨#[0, 101, 88]⟩ := ⟨_, rfl⟩
        have hx4 : X.size = 4 := by rw [hX]; rfl
        obtain ⟨Y, hY⟩ : ∃ Y : ByteArray, Y = X ++ ⟨#[0, 0, 0, 0]⟩ ++ (R2 ++ S) := ⟨_, rfl⟩
        have hy : Y.size ≤ 20000 := by
          have e4 : ({ data := #[0, 0, 0, 0] } : ByteArray).size = 4 := rfl
          rw [hY, ByteArray.size_append, ByteArray.size_append, hx4, e4]; omega
        have HX := Lib.hid hX
        have HYY := Lib.hid hY
        have ex : ({ data := #[u8 (F + 128)] } : ByteArray) ++ { data := #[0, 101, 88] } = X := hX.symm
        have ey : X ++ { data := #[0, 0, 0, 0] } ++ (R2 ++ S) = Y := hY.symm
        clear hX hY
        go_wp2_with (go_at_call 41; refine (ref02Sum_s Y hy _).mono ?_; rintro e w5 ⟨rfl, f5⟩; obtain ⟨x, hx⟩ : ∃ x, x = sumS Y.data.toList := ⟨_, rfl⟩; have hx2 : x < 65536 := (by rw [hx]; unfold sumS; omega); rw [← hx]; have HN := Lib.hid hx; have ht2 := two_text w5 ((x : Int) / 256) ((x : Int) % 256) (by omega) (by omega) (by omega) (by omega); have F5 := Lib.hid ((F4.out.then_no f5).alloc (.cells #[.int .u8 ((x : Int) / 256), .int .u8 ((x : Int) % 256)] 5)); clear hx f5)
        go_ret2
        refine ⟨?_, F5.out⟩
        have e0 : greBase true k key q seq fs = Y.data.toList := by
          rw [greBase_true, ← HB.out, ← HF.out, HYY.out, HX.out]
          simp [ByteArray.data_append]
        have e1 : u8 ((x : Int) % 256) = u8 (x : Int) := by simp only [u8]; congr 1; omega
        rw [greOut_true, e0, ← HB.out, ← HF.out, ← HN.out]
        refine congrArg (fun x => Ending.returned (.tuple #[.string x, .int .i64 0])) (ByteArray.ext ?_)
        rw [HX.out, e1]
        simp [ByteArray.data_append]

theorem ref13Encap_any (s k : Bool) (key : Int) (q : Bool) (seq : Int) (hk0 : 0 ≤ key) (hk1 : key < 4294967296) (hq0 : 0 ≤ seq) (hq1 : seq < 4294967296) (fs : List UInt8) (hn : fs.length ≤ 10000) (w : World) :
    Calls Tryd.prog 15 #[.agg #[.bool s, .bool k, .int .u32 key, .bool q, .int .u32 seq], .string ⟨fs.toArray⟩] w fun e w' => e = .returned (.tuple #[.string ⟨(greR s k key q seq fs).1.toArray⟩, .int .i64 (greR s k key q seq fs).2]) ∧ Fr No w w' := by
  by_cases hs : sizeN fs.length = 0
  · have e : greR s k key q seq fs = (greOut s k key q seq fs, 0) := by unfold greR; rw [if_neg (by simp [hs])]
    rw [e]
    exact ref13Encap_ok s k key q seq hk0 hk1 hq0 hq1 fs hn hs w
  · have e : greR s k key q seq fs = ([], sizeN fs.length) := by unfold greR; rw [if_pos hs]
    rw [e]
    exact ref13Encap_no s k key q seq fs hn hs w

end Go.Proofs.YtghjcgpdmlfmjaaDoor
