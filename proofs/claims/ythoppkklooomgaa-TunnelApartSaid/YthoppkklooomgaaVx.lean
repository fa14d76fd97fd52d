/- vxlan: Encap, Decap. -/
import Derived.Test.YthoppkklooomgaaOctW
import Derived.Test.YthoppkklooomgaaErrText
namespace Go.Proofs.Ythoppkklooomgaa
open Go.RowKit
set_option linter.unusedVariables false
def vxlanS : ByteArray := ⟨#[118, 120, 108, 97, 110]⟩

/-- Bytes, and no error; no bytes, and an error. -/
def BytesOk (w : World) (m : Nat) (out : List UInt8) (e : Ending) (w' : World) : Prop :=
  ∃ g cap, e = .returned (.tuple #[.slice (some ⟨g, 0, none⟩) m cap, .nilIface]) ∧ OB w' 5 (some ⟨g, 0, none⟩) m cap out ∧ Fr No w w' ∧ w.heap.size ≤ g
def BytesNo (w : World) (ls : List ByteArray) (n : Int) (e : Ending) (w' : World) : Prop :=
  ∃ b, e = .returned (.tuple #[.slice none 0 0, .iface 107 (.pointer (some ⟨b, 0, none⟩))]) ∧ Err w' (.iface 107 (.pointer (some ⟨b, 0, none⟩))) ls n ∧ Fr No w w'

theorem vxSize_ok (ao : Option Addr) (n cap : Nat) (h1 : 14 ≤ n) (h2 : n ≤ 9000) (w : World) : Calls Try.prog 52 #[.slice ao n cap] w fun e w' => e = .returned .nilIface ∧ w = w' := by
  go_enter Try.func52, Try.ntmps52
  go_wp2
  go_ret
  exact ⟨rfl, rfl⟩
theorem vxSize_short (ao : Option Addr) (n cap : Nat) (h1 : n < 14) (w : World) : Calls Try.prog 52 #[.slice ao n cap] w fun e w' => e = .returned (.iface 32 (.int .i64 2)) ∧ w = w' := by
  go_enter Try.func52, Try.ntmps52
  go_wp2
  go_ret
  exact ⟨rfl, rfl⟩
theorem vxSize_big (ao : Option Addr) (n cap : Nat) (h1 : 9000 < n) (w : World) : Calls Try.prog 52 #[.slice ao n cap] w fun e w' => e = .returned (.iface 32 (.int .i64 7)) ∧ w = w' := by
  go_enter Try.func52, Try.ntmps52
  go_wp2
  go_ret
  exact ⟨rfl, rfl⟩

theorem Wr.new (w : World) : Wr (Up w.heap.size) (w.alloc (.cells #[.slice none 0 0] 94)) w.heap.size [] :=
  ⟨none, 0, 0, ⟨heap_alloc_new w _, OB.nil _ _, fun a h => (by cases h), fun a h => (by cases h), Nat.le_refl _, fun k hk => by simp at hk; simp only [Up]; omega⟩⟩

def vxOut (id : Int) (fs : List UInt8) : List UInt8 := b4 134217728 ++ b4 (id * 256) ++ fs

set_option maxRecDepth 100000 in
theorem vxEncap_ok {w : World} {ao : Option Addr} {n cap : Nat} {fs : List UInt8} (id : Int) (hi0 : 0 ≤ id) (hi : id < 16777216) (hb : Bs w ao n cap fs) (h1 : 14 ≤ n) (h2 : n ≤ 9000) {m : Nat} (hm : m = 8 + n) :
    Calls Try.prog 41 #[.int .u32 id, .slice ao n cap] w (BytesOk w m (vxOut id fs)) := by
  have HM := Lib.hid hm
  clear hm
  have HB := Lib.hid hb
  have hN : fs.length = n := hb.1.symm
  have HN := Lib.hid hN
  clear hb hN
  go_enter Try.func41, Try.ntmps41
  go_wp2_with (go_at_call 52; refine (vxSize_ok _ _ _ h1 h2 _).mono ?_; rintro e w1 ⟨rfl, rfl⟩)
  refine (wU32_any (Wr.new w) 134217728 (by omega) (by omega) (by simp; decide)).mono ?_
  rintro e w1 ⟨rfl, r1, f1⟩
  have R1 := Lib.hid r1
  have F1 := Lib.hid (((Fr.refl (Up w.heap.size) w).alloc _).trans f1)
  clear r1 f1
  go_wp2_with fail
  refine (wU32_any R1.out _ (by omega) (by omega) (by decide)).mono ?_
  rintro e w2 ⟨rfl, r2, f2⟩
  have R2 := Lib.hid r2
  have F2 := Lib.hid (F1.out.trans f2)
  clear r2 f2
  go_wp2_with fail
  refine (wBytes_any R2.out (HB.out.keep F2.out) (by simp [b4]; unfold big; omega)).mono ?_
  rintro e w3 ⟨rfl, r3, f3⟩
  have R3 := Lib.hid r3
  have F3 := Lib.hid (F2.out.trans f3)
  clear r3 f3
  go_wp2_with fail
  refine (wDone_any R3.out (by have := HN.out; simp [b4]; unfold big; omega)).mono ?_
  rintro e w4 ⟨a, cap', rfl, ho, f4, ha⟩
  go_wp2_with fail
  go_ret2
  exact ⟨a, cap', congrArg (fun m => Ending.returned (.tuple #[.slice (some ⟨a, 0, none⟩) m cap', .nilIface])) (by have := HM.out; have := HN.out; simp [b4]; omega), by have e1 : ([] ++ b4 134217728 ++ b4 (id * 256) ++ fs).length = m := (by have := HM.out; have := HN.out; simp [b4]; omega); rw [e1] at ho; exact ho, (F3.out.up (Nat.le_refl _)).then_no f4, Nat.le_trans F3.out.size ha⟩

theorem vxEncap_id {w : World} {ao : Option Addr} {n cap : Nat} (id : Int) (hi : 16777216 ≤ id) (hi2 : id < 4294967296) :
    Calls Try.prog 41 #[.int .u32 id, .slice ao n cap] w (BytesNo w [vxlanS] 1) := by
  go_enter Try.func41, Try.ntmps41
  go_wp2_with (go_at_call 23; refine (wrap_err _ (Err.num 1)).mono ?_; rintro e w1 ⟨b, rfl, he, hf⟩)
  go_ret2
  exact ⟨b, rfl, he, hf⟩
theorem vxEncap_short {w : World} {ao : Option Addr} {n cap : Nat} (id : Int) (hi : id < 16777216) (hn : n < 14) :
    Calls Try.prog 41 #[.int .u32 id, .slice ao n cap] w (BytesNo w [vxlanS] 2) := by
  go_enter Try.func41, Try.ntmps41
  go_wp2_with (first | (go_at_call 52; refine (vxSize_short _ _ _ hn _).mono ?_; rintro e w1 ⟨rfl, rfl⟩) | (go_at_call 23; refine (wrap_err _ (Err.num 2)).mono ?_; rintro e w1 ⟨b, rfl, he, hf⟩))
  go_ret2
  exact ⟨b, rfl, he, hf⟩
theorem vxEncap_big {w : World} {ao : Option Addr} {n cap : Nat} (id : Int) (hi : id < 16777216) (hn : 9000 < n) :
    Calls Try.prog 41 #[.int .u32 id, .slice ao n cap] w (BytesNo w [vxlanS] 7) := by
  go_enter Try.func41, Try.ntmps41
  go_wp2_with (first | (go_at_call 52; refine (vxSize_big _ _ _ hn _).mono ?_; rintro e w1 ⟨rfl, rfl⟩) | (go_at_call 23; refine (wrap_err _ (Err.num 7)).mono ?_; rintro e w1 ⟨b, rfl, he, hf⟩))
  go_ret2
  exact ⟨b, rfl, he, hf⟩

/-- Decap: an id and bytes, and no error; an error. -/
def VxOk (w : World) (id : Int) (m : Nat) (fs : List UInt8) (e : Ending) (w' : World) : Prop :=
  ∃ g cap, e = .returned (.tuple #[.int .u32 id, .slice (some ⟨g, 0, none⟩) m cap, .nilIface]) ∧ OB w' 5 (some ⟨g, 0, none⟩) m cap fs ∧ Fr No w w' ∧ w.heap.size ≤ g
def VxNo (w : World) (ls : List ByteArray) (n : Int) (e : Ending) (w' : World) : Prop :=
  ∃ b, e = .returned (.tuple #[.int .u32 0, .slice none 0 0, .iface 107 (.pointer (some ⟨b, 0, none⟩))]) ∧ Err w' (.iface 107 (.pointer (some ⟨b, 0, none⟩))) ls n ∧ Fr No w w'

/-- Too few bytes for a header. -/
theorem vxDecap_head {w : World} {ao : Option Addr} {n cap : Nat} {bs : List UInt8} (hb : Bs w ao n cap bs) (hn : n < 8) : Calls Try.prog 43 #[.slice ao n cap] w (VxNo w [vxlanS, octetsS] 2) := by
  have HB := Lib.hid hb
  have hN : bs.length = n := hb.1.symm
  have HN := Lib.hid hN
  clear hb hN
  go_enter Try.func43, Try.ntmps43
  go_wp2_with (go_at_call 56; refine (oread_any HB.out (by unfold big; omega)).mono ?_; rintro e w1 ⟨rb, rfl, hrb, r1, f1⟩)
  have R1 := Lib.hid r1
  have F1 := Lib.hid f1
  clear r1 f1
  by_cases h4 : n < 4
  · refine (rU32_no R1.out (by rw [HN.out]; exact h4)).mono ?_
    rintro e w2 ⟨b, rfl, he, f2⟩
    have HE := Lib.hid he
    have F2 := Lib.hid f2
    clear he f2
    go_wp2_with (go_at_call 23; refine (wrap_err _ HE.out).mono ?_; rintro e w3 ⟨b', rfl, he', f3⟩)
    go_ret3
    exact ⟨b', rfl, he', (F1.out.then_no F2.out).then_no f3⟩
  · refine (rU32_ok R1.out (by rw [HN.out]; omega)).mono ?_
    rintro e w2 ⟨rfl, r2, f2⟩
    have R2 := Lib.hid r2
    have F2 := Lib.hid (F1.out.then f2 (by rintro i hi rfl; omega))
    clear r2 f2
    go_wp2_with fail
    refine (rU32_no R2.out (by have := HN.out; simp; omega)).mono ?_
    rintro e w3 ⟨b, rfl, he, f3⟩
    have HE := Lib.hid he
    have F3 := Lib.hid f3
    clear he f3
    go_wp2_with (go_at_call 23; refine (wrap_err _ HE.out).mono ?_; rintro e w4 ⟨b', rfl, he', f4⟩)
    go_ret3
    exact ⟨b', rfl, he', (F2.out.then_no F3.out).then_no f4⟩

/-- The bit that tells that there is an id. -/
def known (bs : List UInt8) : Bool := !(bits .and .u32 ((be (bs.take 4) : Int) / 16777216) 8 == 0)

theorem vxDecap_form {w : World} {ao : Option Addr} {n cap : Nat} {bs : List UInt8} (hb : Bs w ao n cap bs) (hn : 8 ≤ n) (hbig : n ≤ big) (hk : known bs = false) : Calls Try.prog 43 #[.slice ao n cap] w (VxNo w [vxlanS] 3) := by
  have HB := Lib.hid hb
  have hN : bs.length = n := hb.1.symm
  have HN := Lib.hid hN
  have HG := Lib.hid hbig
  have hk1 : (bits .and .u32 ((be (bs.take 4) : Int) / 16777216) 8 == 0) = true := by simpa [known] using hk
  clear hb hN hk hbig
  go_enter Try.func43, Try.ntmps43
  go_wp2_with (go_at_call 56; refine (oread_any HB.out HG.out).mono ?_; rintro e w1 ⟨rb, rfl, hrb, r1, f1⟩)
  have R1 := Lib.hid r1
  have F1 := Lib.hid f1
  clear r1 f1
  refine (rU32_ok R1.out (by rw [HN.out]; omega)).mono ?_
  rintro e w2 ⟨rfl, r2, f2⟩
  have R2 := Lib.hid r2
  have F2 := Lib.hid (F1.out.then f2 (by rintro i hi rfl; omega))
  clear r2 f2
  go_wp2_with fail
  refine (rU32_ok R2.out (by have := HN.out; simp; omega)).mono ?_
  rintro e w3 ⟨rfl, r3, f3⟩
  have F3 := Lib.hid (F2.out.then f3 (by rintro i hi rfl; omega))
  clear r3 f3
  go_wp2_with (go_at_call 23; refine (wrap_err _ (Err.num 3)).mono ?_; rintro e w4 ⟨b', rfl, he', f4⟩)
  go_ret3
  exact ⟨b', rfl, he', F3.out.then_no f4⟩

/-- The walk as far as the frame. -/
theorem vxDecap_size {w : World} {ao : Option Addr} {n cap : Nat} {bs : List UInt8} (hb : Bs w ao n cap bs) (hn : 8 ≤ n) (hbig : n ≤ big) (hk : known bs = true) (code : Int) (hs : n < 22 ∧ code = 2 ∨ 9008 < n ∧ code = 7) :
    Calls Try.prog 43 #[.slice ao n cap] w (VxNo w [vxlanS] code) := by
  have HB := Lib.hid hb
  have hN : bs.length = n := hb.1.symm
  have HN := Lib.hid hN
  have HG := Lib.hid hbig
  have HS := Lib.hid hs
  have hk1 : (bits .and .u32 ((be (bs.take 4) : Int) / 16777216) 8 == 0) = false := by simpa [known] using hk
  clear hb hN hk hbig hs
  go_enter Try.func43, Try.ntmps43
  go_wp2_with (go_at_call 56; refine (oread_any HB.out HG.out).mono ?_; rintro e w1 ⟨rb, rfl, hrb, r1, f1⟩)
  have R1 := Lib.hid r1
  have F1 := Lib.hid f1
  clear r1 f1
  refine (rU32_ok R1.out (by rw [HN.out]; omega)).mono ?_
  rintro e w2 ⟨rfl, r2, f2⟩
  have R2 := Lib.hid r2
  have F2 := Lib.hid (F1.out.then f2 (by rintro i hi rfl; omega))
  clear r2 f2
  go_wp2_with fail
  refine (rU32_ok R2.out (by have := HN.out; simp; omega)).mono ?_
  rintro e w3 ⟨rfl, r3, f3⟩
  have R3 := Lib.hid r3
  have F3 := Lib.hid (F2.out.then f3 (by rintro i hi rfl; omega))
  clear r3 f3
  go_wp2_with fail
  refine (rRest_any R3.out).mono ?_
  rintro e w4 ⟨ao', rfl, b4, r4, f4, o4⟩
  have hl : ((bs.drop 4).drop 4).length = n - 8 := by have := HN.out; simp; omega
  rw [hl] at b4 ⊢
  have B4 := Lib.hid b4
  have F4 := Lib.hid (F3.out.then f4 (by rintro i hi rfl; omega))
  clear r4 f4 b4 o4 hl
  go_wp2_with fail
  refine (cloneB_any B4.out (by have := HG.out; omega)).mono ?_
  rintro e w5 ⟨ao5, cap5, rfl, b5, f5, h5⟩
  have F5 := Lib.hid (F4.out.then_no f5)
  clear b5 f5 h5
  rcases HS.out with ⟨h, rfl⟩ | ⟨h, rfl⟩
  · skip
    go_wp2_with (first | (go_at_call 52; refine (vxSize_short _ _ _ (by omega) _).mono ?_; rintro e w6 ⟨rfl, rfl⟩) | (go_at_call 23; refine (wrap_err _ (Err.num 2)).mono ?_; rintro e w6 ⟨b', rfl, he', f6⟩))
    go_ret3
    exact ⟨b', rfl, he', F5.out.then_no f6⟩
  · skip
    go_wp2_with (first | (go_at_call 52; refine (vxSize_big _ _ _ (by omega) _).mono ?_; rintro e w6 ⟨rfl, rfl⟩) | (go_at_call 23; refine (wrap_err _ (Err.num 7)).mono ?_; rintro e w6 ⟨b', rfl, he', f6⟩))
    go_ret3
    exact ⟨b', rfl, he', F5.out.then_no f6⟩

theorem vxDecap_ok {w : World} {ao : Option Addr} {n cap : Nat} {bs : List UInt8} (hb : Bs w ao n cap bs) (hn : 22 ≤ n) (hn2 : n ≤ 9008) (hk : known bs = true) :
    ∀ {i : Int} {m : Nat} {fs : List UInt8}, ((be ((bs.drop 4).take 4) : Int) / 256 = i) → (fs = bs.drop 8) → (m = n - 8) → Calls Try.prog 43 #[.slice ao n cap] w (VxOk w i m fs) := by
  intro i m fs hi hfs hm
  have HI := Lib.hid hi
  have HF := Lib.hid hfs
  have HM := Lib.hid hm
  clear hi hfs hm
  have HB := Lib.hid hb
  have hN : bs.length = n := hb.1.symm
  have HN := Lib.hid hN
  have hk1 : (bits .and .u32 ((be (bs.take 4) : Int) / 16777216) 8 == 0) = false := by simpa [known] using hk
  clear hb hN hk
  go_enter Try.func43, Try.ntmps43
  go_wp2_with (go_at_call 56; refine (oread_any HB.out (by unfold big; omega)).mono ?_; rintro e w1 ⟨rb, rfl, hrb, r1, f1⟩)
  have R1 := Lib.hid r1
  have F1 := Lib.hid f1
  clear r1 f1
  refine (rU32_ok R1.out (by rw [HN.out]; omega)).mono ?_
  rintro e w2 ⟨rfl, r2, f2⟩
  have R2 := Lib.hid r2
  have F2 := Lib.hid (F1.out.then f2 (by rintro i hi rfl; omega))
  clear r2 f2
  go_wp2_with fail
  refine (rU32_ok R2.out (by have := HN.out; simp; omega)).mono ?_
  rintro e w3 ⟨rfl, r3, f3⟩
  have R3 := Lib.hid r3
  have F3 := Lib.hid (F2.out.then f3 (by rintro i hi rfl; omega))
  clear r3 f3
  go_wp2_with fail
  refine (rRest_any R3.out).mono ?_
  rintro e w4 ⟨ao', rfl, b4, r4, f4, o4⟩
  have hl : ((bs.drop 4).drop 4).length = n - 8 := by have := HN.out; simp; omega
  rw [hl] at b4 ⊢
  have B4 := Lib.hid b4
  have F4 := Lib.hid (F3.out.then f4 (by rintro i hi rfl; omega))
  clear r4 f4 b4 o4 hl
  go_wp2_with fail
  refine (cloneB_any B4.out (by unfold big; omega)).mono ?_
  rintro e w5 ⟨ao5, cap5, rfl, b5, f5, h5⟩
  have F5 := Lib.hid (F4.out.then_no f5)
  have B5 := Lib.hid b5
  have H5 := Lib.hid h5
  have hs4 := F4.out.size
  clear b5 f5 h5
  go_wp2_with (go_at_call 52; refine (vxSize_ok _ _ _ (by omega) (by omega) _).mono ?_; rintro e w6 ⟨rfl, rfl⟩)
  go_ret3
  obtain ⟨a, rfl⟩ := B5.out.bs.some (by have := HN.out; simp; omega)
  have hd : (bs.drop 4).drop 4 = bs.drop 8 := by rw [List.drop_drop]
  have ha := (B5.out.2.row a rfl).1
  refine ⟨a.block, cap5, by rw [HM.out, ← ha, ← HI.out]; rfl, by rw [HM.out, HF.out, ← hd, ← ha]; exact B5.out, F5.out, Nat.le_trans hs4 (H5.out a rfl)⟩

theorem be_b4 (x : Int) (h0 : 0 ≤ x) (h1 : x < 4294967296) : (be (b4 x) : Int) = x := by
  simp only [b4, be, List.foldl_cons, List.foldl_nil]
  have a := u8_toNat (x / 16777216)
  have b := u8_toNat (x / 65536)
  have c := u8_toNat (x / 256)
  have d := u8_toNat x
  omega
theorem b4_length (x : Int) : (b4 x).length = 4 := rfl
theorem vxOut_length (id : Int) (fs : List UInt8) : (vxOut id fs).length = 8 + fs.length := by simp [vxOut, b4_length]; omega
theorem vxOut_drop (id : Int) (fs : List UInt8) : (vxOut id fs).drop 8 = fs := rfl
theorem vxOut_id (id : Int) (fs : List UInt8) : ((vxOut id fs).drop 4).take 4 = b4 (id * 256) := rfl
theorem vxOut_known (id : Int) (fs : List UInt8) : known (vxOut id fs) = true := by
  show (!(bits .and .u32 ((be (b4 134217728) : Int) / 16777216) 8 == 0)) = true
  decide +kernel
theorem vxOut_number (id : Int) (fs : List UInt8) (h0 : 0 ≤ id) (h1 : id < 16777216) : (be (((vxOut id fs).drop 4).take 4) : Int) / 256 = id := by
  rw [vxOut_id]
  have := be_b4 (id * 256) (by omega) (by omega)
  omega

end Go.Proofs.Ythoppkklooomgaa