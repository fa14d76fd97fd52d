/- octets: the reader's U8, U16, Bytes; the writer's U8. -/
import Derived.Test.YthoppkklooomgaaOctW2
namespace Go.Proofs.Ythoppkklooomgaa
open Go.RowKit
set_option linter.unusedVariables false
theorem be_take_le (L : List UInt8) (k n : Nat) (hk : k ≤ n) : be (L.take k) < 256 ^ n := by
  have h := be_lt (L.take k)
  have h2 : (L.take k).length ≤ n := Nat.le_trans (List.length_take_le _ _) hk
  exact Nat.lt_of_lt_of_le h (Nat.pow_le_pow_right (by omega) h2)
theorem or_step16 (L : List UInt8) (k : Nat) (hk : k < 2) (c : UInt8) : IntKind.u16.wrap (bits .or .u32 ((be (L.take k) : Int) % 4294967296 * 256 % 4294967296) ((c.toNat : Int) % 4294967296)) = ((be (L.take k) * 256 + c.toNat : Nat) : Int) := by
  have h := be_take_le L k 1 (by omega)
  have e : (be (L.take k) : Int) % 4294967296 = be (L.take k) := by omega
  rw [e]
  have hc := c.toNat_lt
  rw [or_step _ _ (by omega) hc, IntKind.wrap_u16]; omega
theorem or_step8 (L : List UInt8) (k : Nat) (hk : k < 1) (c : UInt8) : (bits .or .u32 ((be (L.take k) : Int) % 4294967296 * 256 % 4294967296) ((c.toNat : Int) % 4294967296)) % 256 = ((be (L.take k) * 256 + c.toNat : Nat) : Int) := by
  have h := be_take_le L k 0 (by omega)
  have e : (be (L.take k) : Int) % 4294967296 = be (L.take k) := by omega
  rw [e]
  have hc := c.toNat_lt
  rw [or_step _ _ (by omega) hc]; omega

theorem number16_ok {S : Nat → Prop} {w : World} {rb : Nat} {bs : List UInt8} (h : Rd S w rb bs) (hn : 2 ≤ bs.length) : Calls Try.prog 74 #[.pointer (some ⟨rb, 0, none⟩), .int .i64 2] w (NumOk S .u16 w rb 2 bs) := by
  have H := Lib.hid h
  clear h
  go_enter Try.func74, Try.ntmps74
  go_wp2_with (go_at_call 67; refine (take_ok H.out (n := 2) hn).mono ?_; rintro e w1 ⟨ao, rfl, hb, hr, hf, ho⟩)
  have hL : (bs.take 2).length = 2 := by simp; omega
  obtain ⟨a, rfl⟩ := hb.some (by omega)
  obtain ⟨L, hLe⟩ : ∃ L, L = bs.take 2 := ⟨_, rfl⟩
  have HE : Hid (L = bs.take 2) := hLe
  rw [← hLe] at hL hb
  clear hLe
  have HL := Lib.hid hL
  have HB := Lib.hid hb
  clear hL hb
  go_loop [4, 17] (fun n i => ∃ k : Nat, k ≤ 2 ∧ i = .int .i64 k ∧ n = .int .u16 (be (L.take k))) (fun _ i => 2 - (intOf i).toNat)
  case atStart => exact ⟨0, Nat.zero_le _, rfl, rfl⟩
  case round =>
    obtain ⟨k, hk, rfl, rfl⟩ := hrel
    by_cases hlt : k < 2
    · obtain ⟨c, hc⟩ := at_lt (bs := L) (k := k) (by rw [HL.out]; exact hlt)
      have hcell := HB.out.at hc
      have HK := Lib.hid hc
      clear hc
      go_wp2
      go_round
      case rel =>
        refine ⟨k + 1, by omega, by go_num, ?_⟩
        rw [or_step16 L k hlt c, take_succ_at HK.out, be_snoc]
      case measure => simp [intOf]; omega
    · go_wp2
      go_ret2
      have e1 : L.take k = bs.take 2 := by rw [List.take_of_length_le (by have := HL.out; omega), HE.out]
      exact ⟨by rw [e1]; rfl, hr, hf⟩

theorem number16_no {S : Nat → Prop} {w : World} {rb : Nat} {bs : List UInt8} (h : Rd S w rb bs) (hn : bs.length < 2) : Calls Try.prog 74 #[.pointer (some ⟨rb, 0, none⟩), .int .i64 2] w (NumNo .u16 w) := by
  have H := Lib.hid h
  clear h
  go_enter Try.func74, Try.ntmps74
  go_wp2_with (go_at_call 67; refine (take_no H.out (n := 2) hn).mono ?_; rintro e w1 ⟨b, rfl, he, hf⟩)
  refine wp_loop_rounds 1 ?_
  rw [rounds_succ]
  go_wp2
  go_ret2
  exact ⟨b, rfl, he, hf⟩

theorem rU16_ok {S : Nat → Prop} {w : World} {rb : Nat} {bs : List UInt8} (h : Rd S w rb bs) (hn : 2 ≤ bs.length) : Calls Try.prog 69 #[.pointer (some ⟨rb, 0, none⟩)] w (NumOk S .u16 w rb 2 bs) := by
  go_enter Try.func69, Try.ntmps69
  go_wp2_with (go_at_call 74; refine (number16_ok h hn).mono ?_; rintro e w1 ⟨rfl, hr, hf⟩)
  go_ret2
  exact ⟨rfl, hr, hf⟩
theorem rU16_no {S : Nat → Prop} {w : World} {rb : Nat} {bs : List UInt8} (h : Rd S w rb bs) (hn : bs.length < 2) : Calls Try.prog 69 #[.pointer (some ⟨rb, 0, none⟩)] w (NumNo .u16 w) := by
  go_enter Try.func69, Try.ntmps69
  go_wp2_with (go_at_call 74; refine (number16_no h hn).mono ?_; rintro e w1 ⟨b, rfl, he, hf⟩)
  go_ret2
  exact ⟨b, rfl, he, hf⟩

theorem number8_ok {S : Nat → Prop} {w : World} {rb : Nat} {bs : List UInt8} (h : Rd S w rb bs) (hn : 1 ≤ bs.length) : Calls Try.prog 73 #[.pointer (some ⟨rb, 0, none⟩), .int .i64 1] w (NumOk S .u8 w rb 1 bs) := by
  have H := Lib.hid h
  clear h
  go_enter Try.func73, Try.ntmps73
  go_wp2_with (go_at_call 67; refine (take_ok H.out (n := 1) hn).mono ?_; rintro e w1 ⟨ao, rfl, hb, hr, hf, ho⟩)
  have hL : (bs.take 1).length = 1 := by simp; omega
  obtain ⟨a, rfl⟩ := hb.some (by omega)
  obtain ⟨L, hLe⟩ : ∃ L, L = bs.take 1 := ⟨_, rfl⟩
  have HE : Hid (L = bs.take 1) := hLe
  rw [← hLe] at hL hb
  clear hLe
  have HL := Lib.hid hL
  have HB := Lib.hid hb
  clear hL hb
  go_loop [4, 17] (fun n i => ∃ k : Nat, k ≤ 1 ∧ i = .int .i64 k ∧ n = .int .u8 (be (L.take k))) (fun _ i => 1 - (intOf i).toNat)
  case atStart => exact ⟨0, Nat.zero_le _, rfl, rfl⟩
  case round =>
    obtain ⟨k, hk, rfl, rfl⟩ := hrel
    by_cases hlt : k < 1
    · obtain ⟨c, hc⟩ := at_lt (bs := L) (k := k) (by rw [HL.out]; exact hlt)
      have hcell := HB.out.at hc
      have HK := Lib.hid hc
      clear hc
      go_wp2
      go_round
      case rel =>
        refine ⟨k + 1, by omega, by go_num, ?_⟩
        rw [or_step8 L k hlt c, take_succ_at HK.out, be_snoc]
      case measure => simp [intOf]; omega
    · go_wp2
      go_ret2
      have e1 : L.take k = bs.take 1 := by rw [List.take_of_length_le (by have := HL.out; omega), HE.out]
      exact ⟨by rw [e1]; rfl, hr, hf⟩

theorem number8_no {S : Nat → Prop} {w : World} {rb : Nat} {bs : List UInt8} (h : Rd S w rb bs) (hn : bs.length < 1) : Calls Try.prog 73 #[.pointer (some ⟨rb, 0, none⟩), .int .i64 1] w (NumNo .u8 w) := by
  have H := Lib.hid h
  clear h
  go_enter Try.func73, Try.ntmps73
  go_wp2_with (go_at_call 67; refine (take_no H.out (n := 1) hn).mono ?_; rintro e w1 ⟨b, rfl, he, hf⟩)
  refine wp_loop_rounds 1 ?_
  rw [rounds_succ]
  go_wp2
  go_ret2
  exact ⟨b, rfl, he, hf⟩

theorem rU8_ok {S : Nat → Prop} {w : World} {rb : Nat} {bs : List UInt8} (h : Rd S w rb bs) (hn : 1 ≤ bs.length) : Calls Try.prog 68 #[.pointer (some ⟨rb, 0, none⟩)] w (NumOk S .u8 w rb 1 bs) := by
  go_enter Try.func68, Try.ntmps68
  go_wp2_with (go_at_call 73; refine (number8_ok h hn).mono ?_; rintro e w1 ⟨rfl, hr, hf⟩)
  go_ret2
  exact ⟨rfl, hr, hf⟩
theorem rU8_no {S : Nat → Prop} {w : World} {rb : Nat} {bs : List UInt8} (h : Rd S w rb bs) (hn : bs.length < 1) : Calls Try.prog 68 #[.pointer (some ⟨rb, 0, none⟩)] w (NumNo .u8 w) := by
  go_enter Try.func68, Try.ntmps68
  go_wp2_with (go_at_call 73; refine (number8_no h hn).mono ?_; rintro e w1 ⟨b, rfl, he, hf⟩)
  go_ret2
  exact ⟨b, rfl, he, hf⟩

/-- (*Reader).Bytes, of a number that is not below 0. -/
theorem rBytes_ok {S : Nat → Prop} {w : World} {rb n : Nat} {bs : List UInt8} (h : Rd S w rb bs) (hn : n ≤ bs.length) : Calls Try.prog 60 #[.pointer (some ⟨rb, 0, none⟩), .int .i64 n] w (TakeOk S w rb n bs) := by
  go_enter Try.func60, Try.ntmps60
  go_wp2_with (go_at_call 67; refine (take_ok h (n := n) hn).mono ?_; rintro e w1 ⟨ao, rfl, hb, hr, hf, ho⟩)
  go_ret2
  exact ⟨ao, rfl, hb, hr, hf, ho⟩
theorem rBytes_no {S : Nat → Prop} {w : World} {rb n : Nat} {bs : List UInt8} (h : Rd S w rb bs) (hn : bs.length < n) : Calls Try.prog 60 #[.pointer (some ⟨rb, 0, none⟩), .int .i64 n] w (TakeNo w) := by
  go_enter Try.func60, Try.ntmps60
  go_wp2_with (go_at_call 67; refine (take_no h (n := n) hn).mono ?_; rintro e w1 ⟨b, rfl, he, hf⟩)
  go_ret2
  exact ⟨b, rfl, he, hf⟩

theorem wU8_any {S : Nat → Prop} {w : World} {wb : Nat} {bs : List UInt8} (h : Wr S w wb bs) (x : Int) (hx0 : 0 ≤ x) (hx1 : x < 256) (hn : bs.length + 1 ≤ big) :
    Calls Try.prog 32 #[.pointer (some ⟨wb, 0, none⟩), .int .u8 x] w (PutOk S w wb (bs ++ [u8 x])) := by
  have hx2 : x < 4294967296 := by omega
  go_enter Try.func32, Try.ntmps32
  go_wp2_with (go_at_call 51; refine (wput1 h x hx0 hx2 hn).mono ?_; rintro e w1 ⟨rfl, hr, hf⟩)
  go_ret
  exact ⟨rfl, hr, hf⟩

end Go.Proofs.Ythoppkklooomgaa