/- gre: Encap. -/
import Derived.Test.YthoppkklooomgaaOctW2
import Derived.Test.YthoppkklooomgaaErrText
import Derived.Test.YthoppkklooomgaaSum
import Derived.Test.YthoppkklooomgaaStore
import Derived.StillTailTactics
import Derived.Deep.DeepCutAuto
namespace Go.Proofs.Ythoppkklooomgaa
open Go.RowKit
set_option linter.unusedVariables false
def greS : ByteArray := ⟨#[103, 114, 101]⟩

theorem gSize_ok (ao : Option Addr) (n cap : Nat) (h1 : 14 ≤ n) (h2 : n ≤ 9000) (w : World) : Calls Try.prog 53 #[.slice ao n cap] w fun e w' => e = .returned .nilIface ∧ w = w' := by
  go_enter Try.func53, Try.ntmps53
  go_wp2
  go_ret
  exact ⟨rfl, rfl⟩
theorem gSize_short (ao : Option Addr) (n cap : Nat) (h1 : n < 14) (w : World) : Calls Try.prog 53 #[.slice ao n cap] w fun e w' => e = .returned (.iface 32 (.int .i64 2)) ∧ w = w' := by
  go_enter Try.func53, Try.ntmps53
  go_wp2
  go_ret
  exact ⟨rfl, rfl⟩
theorem gSize_big (ao : Option Addr) (n cap : Nat) (h1 : 9000 < n) (w : World) : Calls Try.prog 53 #[.slice ao n cap] w fun e w' => e = .returned (.iface 32 (.int .i64 7)) ∧ w = w' := by
  go_enter Try.func53, Try.ntmps53
  go_wp2
  go_ret
  exact ⟨rfl, rfl⟩

def flg (is : Bool) (x : Int) : Int := if is then x else 0
theorem flag_any (is : Bool) (x : Int) (w : World) : Calls Try.prog 54 #[.bool is, .int .u16 x] w fun e w' => e = .returned (.int .u16 (flg is x)) ∧ w' = w := by
  cases is
  · go_enter Try.func54, Try.ntmps54
    go_wp2
    go_ret
    exact ⟨rfl, rfl⟩
  · go_enter Try.func54, Try.ntmps54
    go_wp2
    go_ret
    exact ⟨rfl, rfl⟩

/-- The flags of a header. -/
def flags (s k q : Bool) : Int := flg s 32768 + flg k 8192 + flg q 4096
theorem flags_or (s k q : Bool) : bits .or .u16 (bits .or .u16 (flg s 32768) (flg k 8192)) (flg q 4096) = flags s k q := by
  cases s <;> cases k <;> cases q <;> decide +kernel
theorem flags_lt (s k q : Bool) : 0 ≤ flags s k q ∧ flags s k q < 65536 := by
  cases s <;> cases k <;> cases q <;> decide

def opt (b : Bool) (l : List UInt8) : List UInt8 := if b then l else []
theorem opt4_le (b : Bool) (x : Int) : (opt b (b4 x)).length ≤ 4 := by cases b <;> simp [opt, b4]
theorem opt_le (b : Bool) (l : List UInt8) : (opt b l).length ≤ l.length := by cases b <;> simp [opt]

/-- What gre.Encap writes, the sum still nothing. -/
def greBase (s k : Bool) (key : Int) (q : Bool) (seq : Int) (fs : List UInt8) : List UInt8 :=
  ((((b2 (flags s k q) ++ b2 25944) ++ opt s (b4 0)) ++ opt k (b4 key)) ++ opt q (b4 seq)) ++ fs
/-- A sum is written into its place. -/
def summed (l : List UInt8) : List UInt8 := (l.set 4 (u8 ((sumS l : Int) / 256))).set 5 (u8 (sumS l))
def greOut (s k : Bool) (key : Int) (q : Bool) (seq : Int) (fs : List UInt8) : List UInt8 :=
  if s then summed (greBase s k key q seq fs) else greBase s k key q seq fs
def greHead (s k q : Bool) : Nat := 4 + (if s then 4 else 0) + (if k then 4 else 0) + (if q then 4 else 0)
theorem greHead_le (s k q : Bool) : 4 ≤ greHead s k q ∧ greHead s k q ≤ 16 := by cases s <;> cases k <;> cases q <;> decide
theorem greBase_length (s k : Bool) (key : Int) (q : Bool) (seq : Int) (fs : List UInt8) : (greBase s k key q seq fs).length = greHead s k q + fs.length := by
  cases s <;> cases k <;> cases q <;> simp [greBase, greHead, opt, b2, b4] <;> omega
theorem greOut_length (s k : Bool) (key : Int) (q : Bool) (seq : Int) (fs : List UInt8) : (greOut s k key q seq fs).length = greHead s k q + fs.length := by
  unfold greOut summed
  split <;> simp [greBase_length]

/-- Five cells in a row. -/
theorem cells5 {w : World} {b t : Nat} {c0 c1 c2 c3 c4 : Value} (h : w.heap[b]? = some (.cells #[c0, c1, c2, c3, c4] t (0, 0))) :
    w.cell? ⟨b, 0, none⟩ = some c0 ∧ w.cell? ⟨b, 1, none⟩ = some c1 ∧ w.cell? ⟨b, 2, none⟩ = some c2 ∧ w.cell? ⟨b, 3, none⟩ = some c3 ∧ w.cell? ⟨b, 4, none⟩ = some c4 := by
  refine ⟨?_, ?_, ?_, ?_, ?_⟩ <;> (rw [cell_of_row w b _ _ t (0, 0) h]; rfl)
theorem free5 {w : World} {b t : Nat} {cs : Array Value} (h : w.heap[b]? = some (.cells cs t (0, 0))) :
    w.frozen? ⟨b, 0, none⟩ = false ∧ w.frozen? ⟨b, 1, none⟩ = false ∧ w.frozen? ⟨b, 2, none⟩ = false ∧ w.frozen? ⟨b, 3, none⟩ = false ∧ w.frozen? ⟨b, 4, none⟩ = false :=
  ⟨frozen_of_row w b _ cs t h, frozen_of_row w b _ cs t h, frozen_of_row w b _ cs t h, frozen_of_row w b _ cs t h, frozen_of_row w b _ cs t h⟩

/-- Bytes, and no error; no bytes, and an error. -/
def GOk (w : World) (m : Nat) (out : List UInt8) (e : Ending) (w' : World) : Prop :=
  ∃ g cap, e = .returned (.tuple #[.slice (some ⟨g, 0, none⟩) m cap, .nilIface]) ∧ OB w' 5 (some ⟨g, 0, none⟩) m cap out ∧ Fr No w w' ∧ w.heap.size ≤ g
def GNo (w : World) (ls : List ByteArray) (n : Int) (e : Ending) (w' : World) : Prop :=
  ∃ b, e = .returned (.tuple #[.slice none 0 0, .iface 107 (.pointer (some ⟨b, 0, none⟩))]) ∧ Err w' (.iface 107 (.pointer (some ⟨b, 0, none⟩))) ls n ∧ Fr No w w'

theorem gEncap_short {w : World} {ao : Option Addr} {n cap : Nat} (s k : Bool) (key : Int) (q : Bool) (seq : Int) (hn : n < 14) :
    Calls Try.prog 42 #[.agg #[.bool s, .bool k, .int .u32 key, .bool q, .int .u32 seq], .slice ao n cap] w (GNo w [greS] 2) := by
  go_enter Try.func42, Try.ntmps42
  go_wp2_with (first | (go_at_call 53; refine (gSize_short _ _ _ hn _).mono ?_; rintro e w1 ⟨rfl, rfl⟩) | (go_at_call 23; refine (wrap_err _ (Err.num 2)).mono ?_; rintro e w1 ⟨b, rfl, he, hf⟩))
  go_ret2
  exact ⟨b, rfl, he, ((Fr.refl _ _).alloc _).then_no hf⟩
theorem gEncap_big {w : World} {ao : Option Addr} {n cap : Nat} (s k : Bool) (key : Int) (q : Bool) (seq : Int) (hn : 9000 < n) :
    Calls Try.prog 42 #[.agg #[.bool s, .bool k, .int .u32 key, .bool q, .int .u32 seq], .slice ao n cap] w (GNo w [greS] 7) := by
  go_enter Try.func42, Try.ntmps42
  go_wp2_with (first | (go_at_call 53; refine (gSize_big _ _ _ hn _).mono ?_; rintro e w1 ⟨rfl, rfl⟩) | (go_at_call 23; refine (wrap_err _ (Err.num 7)).mono ?_; rintro e w1 ⟨b, rfl, he, hf⟩))
  go_ret2
  exact ⟨b, rfl, he, ((Fr.refl _ _).alloc _).then_no hf⟩

/-- The writer at block b has written l; outside its memory all is as in w0. -/
def GW (w0 : World) (b : Nat) (l : List UInt8) (wc : World) : Prop := Wr (Up b) wc b l ∧ Fr (Up b) w0 wc
theorem GW.skip {w0 wc : World} {b : Nat} {l : List UInt8} (h : GW w0 b l wc) (y : List UInt8) : GW w0 b (l ++ opt false y) wc := by
  have e : l ++ opt false y = l := by simp [opt]
  rw [e]; exact h
theorem GW.put {w0 w1 wc : World} {b : Nat} {l : List UInt8} (h : GW w0 b l w1) (y : List UInt8) (hr : Wr (Up b) wc b (l ++ y)) (hf : Fr (Up b) w1 wc) : GW w0 b (l ++ opt true y) wc := ⟨hr, h.2.trans hf⟩

set_option maxRecDepth 100000 in
theorem gEncap_ok {w : World} {ao : Option Addr} {n cap : Nat} {fs : List UInt8} (s k : Bool) (key : Int) (q : Bool) (seq : Int) (hk0 : 0 ≤ key) (hk1 : key < 4294967296) (hq0 : 0 ≤ seq) (hq1 : seq < 4294967296)
    (hb : Bs w ao n cap fs) (h1 : 14 ≤ n) (h2 : n ≤ 9000) {m : Nat} (hm : m = greHead s k q + n) :
    Calls Try.prog 42 #[.agg #[.bool s, .bool k, .int .u32 key, .bool q, .int .u32 seq], .slice ao n cap] w (GOk w m (greOut s k key q seq fs)) := by
  have HB := Lib.hid hb
  have hN : fs.length = n := hb.1.symm
  have HN := Lib.hid hN
  have HM := Lib.hid hm
  clear hb hN hm
  go_enter Try.func42, Try.ntmps42
  go_wp2_with (go_at_call 53; refine (gSize_ok _ _ _ h1 h2 _).mono ?_; rintro e w1 ⟨rfl, rfl⟩)
  have hW0 := Lib.hid (heap_alloc_new w (.cells #[.bool s, .bool k, .int .u32 key, .bool q, .int .u32 seq] 113))
  have hsz : (w.alloc (.cells #[.bool s, .bool k, .int .u32 key, .bool q, .int .u32 seq] 113)).heap.size = w.heap.size + 1 := by simp
  have F0 := Lib.hid ((Fr.refl No w).alloc (.cells #[.bool s, .bool k, .int .u32 key, .bool q, .int .u32 seq] 113))
  generalize hw0 : w.alloc (.cells #[.bool s, .bool k, .int .u32 key, .bool q, .int .u32 seq] 113) = w0 at *
  clear hw0
  have r1 := Wr.fresh w0
  rw [hsz] at r1
  have F1 := Lib.hid ((Fr.refl (Up (w.heap.size + 1)) w0).alloc (.cells #[.slice none 0 0] 94))
  generalize hw1 : w0.alloc (.cells #[.slice none 0 0] 94) = w1 at *
  clear hw1
  have R1 := Lib.hid r1
  obtain ⟨c0, c1, c2, c3, c4⟩ := cells5 (F1.out.heap hW0.out (by simp [Up]))
  clear r1
  refine wp_region_still_tail 12 (by kernel_rfl) (by kernel_rfl) ?_
  simp only [List.take_succ_cons, List.take_zero, List.drop_succ_cons, List.drop_zero]
  repeat still_step
  still_call (flag_any _ _ _)
  repeat still_step
  still_call (flag_any _ _ _)
  repeat still_step
  still_call (flag_any _ _ _)
  repeat still_step
  refine wpStill_nil ?_
  rw [flags_or]
  have R2 := Lib.hid (R1.out.no ((Fr.refl No w1).drew))
  have F2 := Lib.hid (F1.out.drew)
  clear R1 F1 c0 c1 c2 c3 c4
  change wpList _ _ _ _ _ w1.drew
  generalize w1.drew = w2 at *
  have hfl := flags_lt s k q
  go_wp2_with fail
  refine (wU16_any R2.out _ hfl.1 hfl.2 (by simp; decide)).mono ?_
  rintro e w3 ⟨rfl, r3, f3⟩
  have R3 := Lib.hid r3
  have F3 := Lib.hid (F2.out.trans f3)
  clear r3 f3 R2 F2
  go_wp2_with fail
  refine (wU16_any R3.out 25944 (by omega) (by omega) (by simp [b2]; decide)).mono ?_
  rintro e w4 ⟨rfl, r4, f4⟩
  have R4 := Lib.hid r4
  have F4 := Lib.hid (F3.out.trans f4)
  clear r4 f4 R3 F3 hfl
  obtain ⟨c0, c1, c2, c3, c4⟩ := cells5 (F4.out.heap hW0.out (by simp [Up]))
  have G4 : Hid (GW w0 (w.heap.size + 1) ((b2 (flags s k q) ++ b2 25944)) w4) := Lib.hid ⟨by simpa using R4.out, F4.out⟩
  clear R4 F4
  go_upto_if 33 with fail
  go_cut [] (fun wc => GW w0 (w.heap.size + 1) ((b2 (flags s k q) ++ b2 25944) ++ opt s (b4 0)) wc)
  case first =>
    cases s
    · go_wp2_with fail
      go_meet
      case rel => exact G4.out.skip _
    · go_wp2_with (go_at_call 36; refine (wU32_any G4.out.1 0 (by omega) (by omega) (by simp [b2]; decide)).mono ?_; rintro e w5 ⟨rfl, r5, f5⟩)
      go_meet
      case rel => exact G4.out.put _ r5 f5
  case rest =>
    have G5 := Lib.hid hcut
    clear hcut G4 c0 c1 c2 c3 c4
    obtain ⟨c0, c1, c2, c3, c4⟩ := cells5 (G5.out.2.heap hW0.out (by simp [Up]))
    have L5 : Hid ((b2 (flags s k q) ++ b2 25944 ++ opt s (b4 0)).length ≤ 8) := Lib.hid (by have := opt_le s (b4 0); simp [b2, b4] at this ⊢; omega)
    go_upto_if 37 with fail
    go_cut [] (fun wc => GW w0 (w.heap.size + 1) (((b2 (flags s k q) ++ b2 25944) ++ opt s (b4 0)) ++ opt k (b4 key)) wc)
    case first =>
      cases k
      · go_wp2_with fail
        go_meet
        case rel => exact G5.out.skip _
      · go_wp2_with (go_at_call 36; refine (wU32_any G5.out.1 key hk0 hk1 (by have := L5.out; unfold big; omega)).mono ?_; rintro e w5 ⟨rfl, r5, f5⟩)
        go_meet
        case rel => exact G5.out.put _ r5 f5
    case rest =>
      have G6 := Lib.hid hcut
      clear hcut G5 c0 c1 c2 c3 c4
      obtain ⟨c0, c1, c2, c3, c4⟩ := cells5 (G6.out.2.heap hW0.out (by simp [Up]))
      have L6 : Hid ((b2 (flags s k q) ++ b2 25944 ++ opt s (b4 0) ++ opt k (b4 key)).length ≤ 12) := Lib.hid (by rw [List.length_append]; have := L5.out; have := opt4_le k key; omega)
      go_upto_if 43 with fail
      go_cut [] (fun wc => GW w0 (w.heap.size + 1) ((((b2 (flags s k q) ++ b2 25944) ++ opt s (b4 0)) ++ opt k (b4 key)) ++ opt q (b4 seq)) wc)
      case first =>
        cases q
        · go_wp2_with fail
          go_meet
          case rel => exact G6.out.skip _
        · go_wp2_with (go_at_call 36; refine (wU32_any G6.out.1 seq hq0 hq1 (by have := L6.out; unfold big; omega)).mono ?_; rintro e w5 ⟨rfl, r5, f5⟩)
          go_meet
          case rel => exact G6.out.put _ r5 f5
      case rest =>
        have G7 := Lib.hid hcut
        clear hcut G6 c0 c1 c2 c3 c4
        have L7 : Hid ((b2 (flags s k q) ++ b2 25944 ++ opt s (b4 0) ++ opt k (b4 key) ++ opt q (b4 seq)).length ≤ 16) := Lib.hid (by rw [List.length_append]; have := L6.out; have := opt4_le q seq; omega)
        go_wp2_with fail
        have hbw : Bs wc ao n cap fs := (HB.out.no F0.out).fr G7.out.2 ?out
        case out =>
          intro a ha hs
          have := (HB.out.2.lt (by have := HN.out; intro e; have := bytesV_length fs; rw [e] at this; simp at this; omega)) a ha
          simp only [Up] at hs
          omega
        refine (wBytes_any G7.out.1 hbw (by have := L7.out; unfold big; omega)).mono ?_
        rintro e w8 ⟨rfl, r8, f8⟩
        have R8 := Lib.hid r8
        have E8 := Lib.hid ((G7.out.2.trans f8).heap hW0.out (by simp [Up]))
        have F8 := Lib.hid (F0.out.then (G7.out.2.trans f8) (fun i hi h => by simp only [Up] at h; omega))
        clear r8 f8 hbw G7 L5 L6
        go_wp2_with fail
        refine (wDone_any R8.out (by rw [List.length_append]; have := L7.out; have := HN.out; unfold big; omega)).mono ?_
        rintro e w9 ⟨g, cap9, rfl, o9, f9, h9⟩
        have hs8 := F8.out.size
        have hL : (b2 (flags s k q) ++ b2 25944 ++ opt s (b4 0) ++ opt k (b4 key) ++ opt q (b4 seq) ++ fs).length = m := by
          have := greBase_length s k key q seq fs
          unfold greBase at this
          rw [this, HN.out, HM.out]
        rw [hL] at o9 ⊢
        have O9 : Hid (OB w9 5 (some ⟨g, 0, none⟩) m cap9 (greBase s k key q seq fs)) := o9
        have F9 := Lib.hid (F8.out.then_no f9)
        have hgw : w.heap.size ≤ g := by omega
        have E9 := Lib.hid (f9.heap E8.out (fun h => h))
        clear o9 f9 h9 R8 hL L7 E8 hs8 F8 hW0 F0
        obtain ⟨c0, c1, c2, c3, c4⟩ := cells5 E9.out
        clear c1 c2 c3 c4 E9
        go_upto_if 53 with fail
        go_cut [] (fun wc => OB wc 5 (some ⟨g, 0, none⟩) m cap9 (greOut s k key q seq fs) ∧ Fr No w wc)
        case first =>
          cases s
          · go_wp2_with fail
            go_meet
            case rel => exact ⟨O9.out, F9.out⟩
          · clear c0 hsz HB
            have hm1 : 18 ≤ m := by have := HM.out; have := greHead_le true k q; simp only [greHead, if_true] at *; omega
            have hm2 : m ≤ 9016 := by have := HM.out; have := greHead_le true k q; omega
            have o10 := O9.out.no ((Fr.refl No w9).alloc (.cells #[.slice (some ⟨g, 0, none⟩) m cap9] 36))
            have F10 := Lib.hid (F9.out.alloc (.cells #[.slice (some ⟨g, 0, none⟩) m cap9] 36))
            have hck : (w9.alloc (.cells #[.slice (some ⟨g, 0, none⟩) m cap9] 36)).cell? ⟨w9.heap.size, 0, none⟩ = some (.slice (some ⟨g, 0, none⟩) m cap9) := by
              rw [cell_of_row _ _ 0 _ 36 (0, 0) (heap_alloc_new w9 _)]; rfl
            have HCK := Lib.hid hck
            have O10 := Lib.hid o10
            clear hck o10 O9 F9
            go_wp2_with fail
            refine (sum_any HCK.out O10.out.bs (by omega)).mono ?_
            rintro e w11 ⟨rfl, rfl⟩
            obtain ⟨x, hx⟩ : ∃ x, x = sumS (greBase true k key q seq fs) := ⟨_, rfl⟩
            have hx2 : x < 65536 := by rw [hx]; unfold sumS; omega
            rw [← hx]
            have HX := Lib.hid hx
            clear hx HCK
            generalize w9.alloc (.cells #[.slice (some ⟨g, 0, none⟩) m cap9] 36) = w10 at *
            obtain ⟨a1, a2, ⟨u0, a3⟩, a4⟩ := O10.out.store 4 (by omega) (u8 ((x : Int) / 256))
            obtain ⟨b1, b2, ⟨u2, b3⟩, b4⟩ := a1.store 5 (by omega) (u8 x)
            obtain ⟨_, _, ⟨v2, e3⟩, e4⟩ := O10.out.store 5 (by omega) (u8 x)
            have A1 := Lib.hid b1
            have A2 := Lib.hid (a2.trans b2)
            clear a1 a2 b1 b2 b3 b4
            go_wp2_with fail
            go_meet
            have v1 : byteV (u8 ((x : Int) / 256)) = .int .u8 ((x : Int) / 256) := (u8_eq (by omega)).symm
            have v2 : byteV (u8 (x : Int)) = .int .u8 ((x : Int) % 256) := (u8_eq rfl).symm
            rw [v1, v2] at A1 A2
            case rel =>
              refine ⟨?_, F10.out.then A2.out (by rintro i hi rfl; omega)⟩
              have e : greOut true k key q seq fs = ((greBase true k key q seq fs).set 4 (u8 ((x : Int) / 256))).set 5 (u8 x) := by simp [greOut, summed, HX.out]
              rw [e]
              exact A1.out
        case rest =>
          obtain ⟨o, f⟩ := hcut
          go_wp2_with fail
          go_ret2
          exact ⟨g, cap9, rfl, o, f, hgw⟩

end Go.Proofs.Ythoppkklooomgaa