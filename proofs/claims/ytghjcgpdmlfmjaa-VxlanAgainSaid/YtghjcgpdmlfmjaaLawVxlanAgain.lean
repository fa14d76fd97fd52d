/- VxlanAgain: its walk. -/
import Derived.Test.YtghjcgpdmlfmjaaLawVxlanBack
import Derived.Test.YtghjcgpdmlfmjaaBits
import Derived.Test.YtghjcgpdmlfmjaaStore
import Derived.Test.YtghjcgpdmlfmjaaCopy
namespace Go.Proofs.Ytghjcgpdmlfmjaa
open Go.RowKit
set_option linter.unusedVariables false

theorem be_four (a b c d : UInt8) : be [a, b, c, d] = ((a.toNat * 256 + b.toNat) * 256 + c.toNat) * 256 + d.toNat := by simp [be]
/-- Eight bytes ahead of what is left. -/
theorem eight {bs : List UInt8} (h : 8 ≤ bs.length) : ∃ a b c d e f g x r, bs = a :: b :: c :: d :: e :: f :: g :: x :: r := by
  match bs, h with
  | a :: b :: c :: d :: e :: f :: g :: x :: r, _ => exact ⟨a, b, c, d, e, f, g, x, r, rfl⟩
theorem or8_known (c : UInt8) (f : Nat) (hf : f < 256) (hc : (c.toNat : Int) = bits .or .u8 f 8) : (bits .and .u32 (c.toNat : Int) 8 == 0) = false := by
  have e1 : bits .or .u8 (f : Int) 8 = ((f ||| 8 : Nat) : Int) := u8_or_nat f 8 hf (by omega)
  have e2 : c.toNat = f ||| 8 := by rw [e1] at hc; omega
  have hlt := c.toNat_lt
  have e3 : bits .and .u32 (c.toNat : Int) 8 = ((c.toNat &&& 8 : Nat) : Int) := u32_and_nat c.toNat 8 (by omega) (by omega)
  have e4 : (f ||| 8) &&& 8 = 8 := (show ∀ f : Fin 256, ((f.val ||| 8) &&& 8) = 8 by decide +kernel) ⟨f, hf⟩
  rw [e3, e2, e4]
  rfl

/-- The bytes of VxlanAgain. -/
def turned (bs : List UInt8) (a b c : UInt8) : List UInt8 := ((bs.set 0 a).set 2 b).set 7 c
theorem turned_length (bs : List UInt8) (a b c : UInt8) : (turned bs a b c).length = bs.length := by simp [turned]
theorem turned_known {bs : List UInt8} (a b c : UInt8) (h : 8 ≤ bs.length) (ha : (bits .and .u32 (a.toNat : Int) 8 == 0) = false) : known (turned bs a b c) = true := by
  obtain ⟨x0, x1, x2, x3, x4, x5, x6, x7, r, rfl⟩ := eight h
  have e : (be ((turned (x0 :: x1 :: x2 :: x3 :: x4 :: x5 :: x6 :: x7 :: r) a b c).take 4) : Int) / 16777216 = (a.toNat : Int) := by
    show (be [a, x1, b, x3] : Int) / 16777216 = _
    rw [be_four]
    have := a.toNat_lt; have := x1.toNat_lt; have := b.toNat_lt; have := x3.toNat_lt
    omega
  unfold known
  rw [e, ha]
  rfl
theorem turned_number {bs : List UInt8} (a b c : UInt8) (h : 8 ≤ bs.length) : (be (((turned bs a b c).drop 4).take 4) : Int) / 256 = (be ((bs.drop 4).take 4) : Int) / 256 := by
  obtain ⟨x0, x1, x2, x3, x4, x5, x6, x7, r, rfl⟩ := eight h
  show (be [x4, x5, x6, c] : Int) / 256 = (be [x4, x5, x6, x7] : Int) / 256
  rw [be_four, be_four]
  have := c.toNat_lt; have := x7.toNat_lt
  omega
theorem turned_drop {bs : List UInt8} (a b c : UInt8) (h : 8 ≤ bs.length) : (turned bs a b c).drop 8 = bs.drop 8 := by
  obtain ⟨x0, x1, x2, x3, x4, x5, x6, x7, r, rfl⟩ := eight h
  rfl
theorem number_lt (bs : List UInt8) : (be ((bs.drop 4).take 4) : Int) / 256 < 16777216 := by
  have h := be_lt ((bs.drop 4).take 4)
  have h2 : ((bs.drop 4).take 4).length ≤ 4 := List.length_take_le _ _
  have h3 : 256 ^ ((bs.drop 4).take 4).length ≤ 256 ^ 4 := Nat.pow_le_pow_right (by omega) h2
  omega

set_option maxRecDepth 100000 in
theorem vxAgain_ok {w : World} {ao : Option Addr} {n cap m : Nat} {fs bs : List UInt8} (f : Nat) (a c : UInt8) (hf : f < 256) (hle : n ≤ cap) (hcc : cap ≤ 9223372036854775807) (hm : m = min n 10000) (hb : Bs w ao m cap bs)
    (h1 : 22 ≤ m) (h2 : m ≤ 9008) (hk : known bs = true) :
    Calls Try.prog 4 #[.slice ao n cap, .int .u8 f, .int .u8 a.toNat, .int .u8 c.toNat] w (LawOk w) := by
  have HB := Lib.hid hb
  have HM := Lib.hid hm
  have hN : bs.length = m := hb.1.symm
  have HN := Lib.hid hN
  have HK := Lib.hid hk
  clear hb hm hN hk
  have hcv := fun (wx : World) (a : Option Addr) (m c : Nat) (bs : List UInt8) (h : Bs wx a m c bs) => run_bytes_string (P := Try.prog) wx 23 9 5 h Try.underlying23 Try.underlying5 Try.underlying9
  have HCV := Lib.hid hcv
  clear hcv
  obtain ⟨c0, hc0⟩ : ∃ c0 : UInt8, bits .or .u8 (f : Int) 8 = (c0.toNat : Int) := by
    refine ⟨UInt8.ofNat (f ||| 8), ?_⟩
    have e1 : bits .or .u8 (f : Int) 8 = ((f ||| 8 : Nat) : Int) := u8_or_nat f 8 hf (by omega)
    have : f ||| 8 < 2 ^ 8 := Nat.or_lt_two_pow (by omega) (by omega)
    rw [e1, UInt8.toNat_ofNat']
    omega
  have HKN := Lib.hid (or8_known c0 f hf hc0.symm)
  obtain ⟨i, hi⟩ : ∃ i, (be ((bs.drop 4).take 4) : Int) / 256 = i := ⟨_, rfl⟩
  have hi1 : 0 ≤ i := by omega
  have hi2 : i < 16777216 := by rw [← hi]; exact number_lt bs
  have HI := Lib.hid hi
  clear hi
  go_enter Try.func4, Try.ntmps4
  go_wp2_with (first
    | (go_at_call 13; refine (shown11_any _).mono ?_; rintro e w1 ⟨rfl, f1⟩; have F1 := Lib.hid f1; clear f1)
    | (go_at_call 14; refine (few11_any _ _ _ hle hcc _).mono ?_; rw [← HM.out]; rintro e w2 ⟨rfl, rfl⟩)
    | (at_builtin; refine wpl_copy (.tmp 22) (.tmp 24) rfl rfl rfl rfl (HB.out.no F1.out) (by unfold big; omega) ?_; intro gb cb w2 ho f2 hgb; have F2 := Lib.hid (F1.out.then_no f2); have O2 := Lib.hid ho; clear ho f2))
  refine (vxDecap_ok O2.out.bs (by omega) (by omega) HK.out HI.out rfl (m := m - 8) rfl).mono ?_
  rintro e w3 ⟨gp, cp, rfl, o3, f3, h3⟩
  have hgpb : gb < gp := by have := O2.out.2.lt _ rfl; simp at this; omega
  have O3 := O2.out.no f3
  have F3 := Lib.hid (F2.out.then_no f3)
  have OP := Lib.hid o3
  obtain ⟨a1, a2, ⟨u0, a3⟩, a4⟩ := O3.store 0 (by omega) c0
  obtain ⟨b1, b2, ⟨u2, b3⟩, b4⟩ := a1.store 2 (by omega) a
  obtain ⟨d1, d2, ⟨u7, d3⟩, d4⟩ := b1.store 7 (by omega) c
  obtain ⟨_, _, ⟨v2, e3⟩, e4⟩ := O3.store 2 (by omega) a
  obtain ⟨_, _, ⟨v7, g3⟩, g4⟩ := O3.store 7 (by omega) a
  have D1 : Hid (OB (((w3.setCell ⟨gb, 0, none⟩ (byteV c0)).setCell ⟨gb, 2, none⟩ (byteV a)).setCell ⟨gb, 7, none⟩ (byteV c)) 5 (some ⟨gb, 0, none⟩) m cb (turned bs c0 a c)) := d1
  have F4 : Hid (Fr (Is gb) w3 (((w3.setCell ⟨gb, 0, none⟩ (byteV c0)).setCell ⟨gb, 2, none⟩ (byteV a)).setCell ⟨gb, 7, none⟩ (byteV c))) := (a2.trans b2).trans d2
  clear a1 a2 b1 b2 b3 b4 d1 d2 d3 d4 O3 o3 f3 h3 O2
  go_wp2_with fail
  refine (vxDecap_ok D1.out.bs (by omega) (by omega) (turned_known c0 a c (by have := HN.out; omega) HKN.out) (i := i) (m := m - 8) (fs := bs.drop 8) (by rw [turned_number _ _ _ (by have := HN.out; omega)]; exact HI.out) (by rw [turned_drop _ _ _ (by have := HN.out; omega)]) rfl).mono ?_
  rintro e w4 ⟨gq, cq, rfl, o4, f4, h4⟩
  have OP4 := Lib.hid ((OP.out.fr F4.out (fun a ha hs => by cases ha; simp only [Is] at hs; omega)).no f4)
  have OQ := Lib.hid o4
  have hs1 := F1.out.size
  have F5 := Lib.hid ((F3.out.then F4.out (by rintro i hi rfl; omega)).then_no f4)
  clear o4 f4 h4 a3 a4 e3 e4 g3 g4 OP
  go_wp2_with fail
  refine (vxEncap_ok i hi1 hi2 OP4.out.bs (by omega) (by omega) (m := m) (by omega)).mono ?_
  rintro e w5 ⟨gx, cx, rfl, o5, f5, h5⟩
  have OP5 := Lib.hid (OP4.out.no f5)
  have OQ5 := Lib.hid (OQ.out.no f5)
  have OX := Lib.hid o5
  have F6 := Lib.hid (F5.out.then_no f5)
  clear o5 f5 h5 OP4 OQ
  go_wp2_with fail
  refine (vxDecap_ok OX.out.bs (by omega) (by omega) (vxOut_known _ _) (vxOut_number i _ hi1 hi2) rfl (m := m - 8) rfl).mono ?_
  rintro e w6 ⟨gr, cr, rfl, o6, f6, h6⟩
  rw [vxOut_drop] at o6
  have s1 := HCV.out w6 _ _ _ _ o6.bs
  have s2 := HCV.out w6 _ _ _ _ (OP5.out.no f6).bs
  have s3 := HCV.out w6 _ _ _ _ (OQ5.out.no f6).bs
  have F7 := Lib.hid (F6.out.then_no f6)
  clear o6 f6 h6
  go_wp2_with fail
  go_ret
  exact ⟨rfl, F7.out⟩

set_option maxRecDepth 100000 in
theorem vxAgain_no {w : World} {ao : Option Addr} {n cap m : Nat} {bs : List UInt8} (f : Nat) (a c : UInt8) (hle : n ≤ cap) (hcc : cap ≤ 9223372036854775807) (hm : m = min n 10000) (hb : Bs w ao m cap bs)
    (hn : m < 8 ∨ known bs = false ∨ m < 22 ∨ 9008 < m) :
    Calls Try.prog 4 #[.slice ao n cap, .int .u8 f, .int .u8 a.toNat, .int .u8 c.toNat] w (LawOk w) := by
  have hm2 : m ≤ 10000 := by omega
  have key : ∀ (wx : World) (a : Option Addr) (c : Nat), Bs wx a m c bs → ∃ ls, ∃ k : Int, Calls Try.prog 16 #[.slice a m c] wx (VxNo wx ls k) := by
    intro wx a c h
    by_cases h8 : m < 8
    · exact ⟨_, _, vxDecap_head h h8⟩
    · cases hk : known bs with
      | false => exact ⟨_, _, vxDecap_form h (by omega) (by unfold big; omega) hk⟩
      | true =>
        have : m < 22 ∨ 9008 < m := by
          rcases hn with h | h | h
          · omega
          · rw [hk] at h; cases h
          · exact h
        rcases this with h' | h'
        · exact ⟨_, _, vxDecap_size h (by omega) (by unfold big; omega) hk 2 (.inl ⟨h', rfl⟩)⟩
        · exact ⟨_, _, vxDecap_size h (by omega) (by unfold big; omega) hk 7 (.inr ⟨h', rfl⟩)⟩
  have HK := Lib.hid key
  have HB := Lib.hid hb
  have HM := Lib.hid hm
  clear hb hm key hn
  go_enter Try.func4, Try.ntmps4
  go_wp2_with (first
    | (go_at_call 13; refine (shown11_any _).mono ?_; rintro e w1 ⟨rfl, f1⟩; have F1 := Lib.hid f1; clear f1)
    | (go_at_call 14; refine (few11_any _ _ _ hle hcc _).mono ?_; rw [← HM.out]; rintro e w2 ⟨rfl, rfl⟩)
    | (at_builtin; refine wpl_copy (.tmp 22) (.tmp 24) rfl rfl rfl rfl (HB.out.no F1.out) (by unfold big; omega) ?_; intro gb cb w2 ho f2 hgb; have F2 := Lib.hid (F1.out.then_no f2); have O2 := Lib.hid ho; clear ho f2))
  obtain ⟨ls, k, hk⟩ := HK.out w2 _ _ O2.out.bs
  refine hk.mono ?_
  clear hk
  rintro e w3 ⟨b, rfl, he, f3⟩
  have F3 := Lib.hid (F2.out.then_no f3)
  clear he f3
  go_wp2_with fail
  go_ret
  exact ⟨rfl, F3.out⟩

theorem VxlanAgain_walk {w : World} {ao : Option Addr} {n cap : Nat} {fs : List UInt8} (f : Nat) (a c : UInt8) (hf : f < 256) (hb : Bs w ao n cap fs) :
    Calls Try.prog 4 #[.slice ao n cap, .int .u8 f, .int .u8 a.toNat, .int .u8 c.toNat] w (LawOk w) := by
  have hle := hb.2.le
  have hcc := hb.2.capLe
  have hbm : Bs w ao (min n 10000) cap (fs.take (min n 10000)) := by
    have := hb.cut 0 (min n 10000) cap (by omega) (by omega) (by omega) (by omega) (a' := ao) (by cases ao <;> simp [Addr.add])
    simpa using this
  by_cases h : 22 ≤ min n 10000 ∧ min n 10000 ≤ 9008 ∧ known (fs.take (min n 10000)) = true
  · exact vxAgain_ok (fs := fs) f a c hf hle hcc rfl hbm h.1 h.2.1 h.2.2
  · refine vxAgain_no f a c hle hcc rfl hbm ?_
    cases hk : known (fs.take (min n 10000)) with
    | false => exact .inr (.inl rfl)
    | true => rw [hk] at h; simp at h; omega

end Go.Proofs.Ytghjcgpdmlfmjaa
