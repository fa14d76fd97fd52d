/- VxlanOwn: its walk. -/
import Derived.Test.YtghjcgpdmlfmjaaLawVxlanBack
import Derived.Test.YtghjcgpdmlfmjaaBits
import Derived.Test.YtghjcgpdmlfmjaaStore
import Derived.Test.YtghjcgpdmlfmjaaCopy
namespace Go.Proofs.Ytghjcgpdmlfmjaa
open Go.RowKit
set_option linter.unusedVariables false

/-- Bytes of which nothing is said but that they are owned. -/
def Some (w : World) (g n cap : Nat) : Prop := ∃ xs, OB w 5 (some ⟨g, 0, none⟩) n cap xs
theorem Some.store {w : World} {g n cap : Nat} (h : Some w g n cap) (k : Nat) (hk : k < n) (c : UInt8) :
    Some (w.setCell ⟨g, k, none⟩ (byteV c)) g n cap ∧ Fr (Is g) w (w.setCell ⟨g, k, none⟩ (byteV c)) ∧ (∃ u, w.cell? ⟨g, k, none⟩ = some u) ∧ w.frozen? ⟨g, k, none⟩ = false := by
  obtain ⟨xs, h⟩ := h
  obtain ⟨h1, h2, h3, h4⟩ := h.store k hk c
  exact ⟨⟨_, h1⟩, h2, h3, h4⟩

set_option maxRecDepth 100000 in
theorem vxOwn_ok {w : World} {ao : Option Addr} {n cap : Nat} {fs : List UInt8} (id : Int) (hi0 : 0 ≤ id) (hi : id < 4294967296) (hb : Bs w ao n cap fs) (h1 : 14 ≤ n) (h2 : n ≤ 9000) :
    Calls Try.prog 5 #[.int .u32 id, .slice ao n cap] w (LawOk w) := by
  have hle := hb.2.le
  have hcc := hb.2.capLe
  have HB := Lib.hid hb
  have hm : min n 10000 = n := by omega
  have HM := Lib.hid hm
  have hN : fs.length = n := hb.1.symm
  have HN := Lib.hid hN
  clear hb hm hN
  have hcv := fun (wx : World) (a : Option Addr) (m c : Nat) (bs : List UInt8) (h : Bs wx a m c bs) => run_bytes_string (P := Try.prog) wx 23 9 5 h Try.underlying23 Try.underlying5 Try.underlying9
  have HCV := Lib.hid hcv
  clear hcv
  obtain ⟨i, hi24⟩ : ∃ i, i = bits .and .u32 id 16777215 := ⟨_, rfl⟩
  have hi1 : 0 ≤ i := by rw [hi24, u32_mask24 id hi0 hi]; omega
  have hi2 : i < 16777216 := by rw [hi24, u32_mask24 id hi0 hi]; omega
  have hi24' := hi24.symm
  clear hi24
  go_enter Try.func5, Try.ntmps5
  go_wp2_with (first
    | (go_at_call 13; refine (shown11_any _).mono ?_; rintro e w1 ⟨rfl, f1⟩; have F1 := Lib.hid f1; clear f1)
    | (go_at_call 14; refine (few11_any _ _ _ hle hcc _).mono ?_; rw [HM.out]; rintro e w2 ⟨rfl, rfl⟩)
    | (at_builtin; refine wpl_copy (.tmp 16) (.tmp 18) rfl rfl rfl rfl (HB.out.no F1.out) (by unfold big; omega) ?_; intro gb cb w2 ho f2 hgb; have F2 := Lib.hid (F1.out.then_no f2); have O2 := Lib.hid ho; have s0 := HCV.out w2 _ _ _ _ ho.bs; clear ho f2))
  refine (vxEncap_ok i hi1 hi2 O2.out.bs h1 h2 (m := n + 8) (by omega)).mono ?_
  rintro e w3 ⟨gx, cx, rfl, o3, f3, h3⟩
  have hgbx : gb < gx := by have := O2.out.2.lt _ rfl; simp at this; omega
  have O2' := Lib.hid (O2.out.no f3)
  have F3 := Lib.hid (F2.out.then_no f3)
  have O3 := Lib.hid o3
  clear o3 f3 h3 O2 s0
  go_wp2_with fail
  refine (vxDecap_ok O3.out.bs (by omega) (by omega) (vxOut_known _ _) (vxOut_number i fs hi1 hi2) rfl (m := n) (by omega)).mono ?_
  rintro e w4 ⟨gp, cp, rfl, o4, f4, h4⟩
  have hgxp : gx < gp := by have := O3.out.2.lt _ rfl; simp at this; omega
  rw [vxOut_drop] at o4
  have F4 := Lib.hid (F3.out.then_no f4)
  have OB4 := Lib.hid (O2'.out.no f4)
  have OX := Lib.hid (O3.out.no f4)
  have OP := Lib.hid o4
  clear o4 f4 h4 O2' O3
  go_wp2_with fail
  go_loopw [12] (fun t wr => ∃ k : Nat, k ≤ n + 8 ∧ t = .int .i64 k ∧ Some wr gx (n + 8) cx ∧ Fr (Is gx) w4 wr) (fun t _ => n + 8 - (intOf t).toNat)
  case atStart => exact ⟨0, Nat.zero_le _, rfl, ⟨_, OX.out⟩, Fr.refl _ _⟩
  case round =>
    obtain ⟨k, hk, rfl, hx, hf⟩ := hrel
    by_cases hlt : k < n + 8
    · obtain ⟨x1, x2, ⟨u, x3⟩, x4⟩ := hx.store k hlt 255
      have X1 := Lib.hid x1
      have X2 := Lib.hid (hf.trans x2)
      clear x1 x2 hx hf
      go_wp2
      go_roundw
      case rel => exact ⟨k + 1, by omega, by go_num, X1.out, X2.out⟩
      case measure => simp [intOf]; omega
    · have FX := Lib.hid hf
      have p5 := OP.out.fr hf (fun a ha hs => by cases ha; simp only [Is] at hs; omega)
      have b5 := OB4.out.fr hf (fun a ha hs => by cases ha; simp only [Is] at hs; omega)
      have s1 := HCV.out wr _ _ _ _ p5.bs
      have s2 := HCV.out wr _ _ _ _ b5.bs
      have P5 := Lib.hid p5
      have B5 := Lib.hid b5
      clear hx hf p5 b5 OP OB4
      go_wp2_with fail
      clear s1 s2
      obtain ⟨wo, rfl⟩ : ∃ wo : World, wo = wr := ⟨_, rfl⟩
      go_loopw [14] (fun t wr => ∃ k : Nat, k ≤ n ∧ t = .int .i64 k ∧ Some wr gp n cp ∧ Fr (Is gp) wo wr) (fun t _ => n - (intOf t).toNat)
      case atStart => exact ⟨0, Nat.zero_le _, rfl, ⟨_, P5.out⟩, Fr.refl _ _⟩
      case round =>
        obtain ⟨k2, hk2, rfl, hx, hf⟩ := hrel
        by_cases hlt2 : k2 < n
        · obtain ⟨x1, x2, ⟨u, x3⟩, x4⟩ := hx.store k2 hlt2 254
          have X1 := Lib.hid x1
          have X2 := Lib.hid (hf.trans x2)
          clear x1 x2 hx hf
          go_wp2
          go_roundw
          case rel => exact ⟨k2 + 1, by omega, by go_num, X1.out, X2.out⟩
          case measure => simp [intOf]; omega
        · have b6 := B5.out.fr hf (fun a ha hs => by cases ha; simp only [Is] at hs; omega)
          have s2 := HCV.out wr _ _ _ _ b6.bs
          have hs1 := F1.out.size
          have F5 := Lib.hid ((F4.out.then FX.out (by rintro i hi rfl; omega)).then hf (by rintro i hi rfl; omega))
          clear hx hf b6
          go_wp2_with fail
          go_ret
          exact ⟨rfl, F5.out⟩

set_option maxRecDepth 100000 in
theorem vxOwn_size {w : World} {ao : Option Addr} {n cap : Nat} {fs : List UInt8} (id : Int) (hi0 : 0 ≤ id) (hi : id < 4294967296) (hb : Bs w ao n cap fs) (hn : n < 14 ∨ 9000 < n) :
    Calls Try.prog 5 #[.int .u32 id, .slice ao n cap] w (LawOk w) := by
  have hle := hb.2.le
  have hcc := hb.2.capLe
  obtain ⟨m, hm⟩ : ∃ m, m = min n 10000 := ⟨_, rfl⟩
  have hmn : m < 14 ∨ 9000 < m := by omega
  have hm2 : m ≤ 10000 := by omega
  have hmle : m ≤ n := by omega
  have hbm : Bs w ao m cap (fs.take m) := by
    have := hb.cut 0 m cap (by omega) (by omega) (by omega) hmle (a' := ao) (by cases ao <;> simp [Addr.add])
    simpa using this
  have HB := Lib.hid hbm
  have HM := Lib.hid hm
  clear hb hm hn hbm
  have hcv := fun (wx : World) (a : Option Addr) (m c : Nat) (bs : List UInt8) (h : Bs wx a m c bs) => run_bytes_string (P := Try.prog) wx 23 9 5 h Try.underlying23 Try.underlying5 Try.underlying9
  have HCV := Lib.hid hcv
  clear hcv
  obtain ⟨i, hi24⟩ : ∃ i, i = bits .and .u32 id 16777215 := ⟨_, rfl⟩
  have hi2 : i < 16777216 := by rw [hi24, u32_mask24 id hi0 hi]; omega
  have hi24' := hi24.symm
  clear hi24
  have key : ∀ (wx : World) (a : Option Addr) (c : Nat), ∃ k : Int, Calls Try.prog 15 #[.int .u32 i, .slice a m c] wx (BytesNo wx [vxlanS] k) := by
    intro wx a c
    rcases hmn with h | h
    · exact ⟨2, vxEncap_short i hi2 h⟩
    · exact ⟨7, vxEncap_big i hi2 h⟩
  have HK := Lib.hid key
  clear key hmn
  go_enter Try.func5, Try.ntmps5
  go_wp2_with (first
    | (go_at_call 13; refine (shown11_any _).mono ?_; rintro e w1 ⟨rfl, f1⟩; have F1 := Lib.hid f1; clear f1)
    | (go_at_call 14; refine (few11_any _ _ _ hle hcc _).mono ?_; rw [← HM.out]; rintro e w2 ⟨rfl, rfl⟩)
    | (at_builtin; refine wpl_copy (.tmp 16) (.tmp 18) rfl rfl rfl rfl (HB.out.no F1.out) (by unfold big; omega) ?_; intro gb cb w2 ho f2 hgb; have F2 := Lib.hid (F1.out.then_no f2); have O2 := Lib.hid ho; have s0 := HCV.out w2 _ _ _ _ ho.bs; clear ho f2))
  obtain ⟨k, hk⟩ := HK.out w2 (some ⟨gb, 0, none⟩) cb
  refine hk.mono ?_
  clear hk
  rintro e w3 ⟨b, rfl, he, f3⟩
  have s2 := HCV.out w3 _ _ _ _ (O2.out.bs.no f3)
  have F3 := Lib.hid (F2.out.then_no f3)
  clear he f3
  go_wp2_with fail
  go_ret
  exact ⟨rfl, F3.out⟩

theorem VxlanOwn_walk {w : World} {ao : Option Addr} {n cap : Nat} {fs : List UInt8} (id : Int) (hi0 : 0 ≤ id) (hi : id < 4294967296) (hb : Bs w ao n cap fs) :
    Calls Try.prog 5 #[.int .u32 id, .slice ao n cap] w (LawOk w) := by
  by_cases h2 : 14 ≤ n ∧ n ≤ 9000
  · exact vxOwn_ok id hi0 hi hb h2.1 h2.2
  · exact vxOwn_size id hi0 hi hb (by omega)

end Go.Proofs.Ytghjcgpdmlfmjaa
