/- GeneveOwn: the walk. -/
import Derived.Test.YtjbieljlhjfpiaaLawGeneveBack
import Derived.Test.YtjbieljlhjfpiaaBits
import Derived.Test.YtjbieljlhjfpiaaStore
import Derived.StillTailTactics
namespace Go.Proofs.Ytjbieljlhjfpiaa
open Go.RowKit
set_option linter.unusedVariables false

/-- Bytes of which nothing is said but that they are owned. -/
def Some (w : World) (g n cap : Nat) : Prop := ∃ xs, OB w 5 (some ⟨g, 0, none⟩) n cap xs
theorem Some.store {w : World} {g n cap : Nat} (h : Some w g n cap) (k : Nat) (hk : k < n) (c : UInt8) :
    Some (w.setCell ⟨g, k, none⟩ (byteV c)) g n cap ∧ Fr (Is g) w (w.setCell ⟨g, k, none⟩ (byteV c)) ∧ (∃ u, w.cell? ⟨g, k, none⟩ = some u) ∧ w.frozen? ⟨g, k, none⟩ = false := by
  obtain ⟨xs, h⟩ := h
  obtain ⟨h1, h2, h3, h4⟩ := h.store k hk c
  exact ⟨⟨_, h1⟩, h2, h3, h4⟩
theorem Some.cell {w : World} {g n cap : Nat} (h : Some w g n cap) (k : Nat) (hk : k < n) : ∃ c : UInt8, w.cell? ⟨g, k, none⟩ = some (.int .u8 (c.toNat : Int)) := by
  obtain ⟨xs, h⟩ := h
  obtain ⟨c, hc⟩ := at_lt (bs := xs) (k := k) (by rw [← h.1]; exact hk)
  have := h.bs.at hc
  rw [Addr.add_lit, Nat.zero_add] at this
  exact ⟨c, this⟩
theorem xor255 (c : UInt8) : ∃ c' : UInt8, bits .xor .u8 (c.toNat : Int) 255 = (c'.toNat : Int) := by
  have h : ∀ k : Nat, k < 256 → bits .xor .u8 (k : Int) 255 = ((255 - k : Nat) : Int) := by decide +kernel
  refine ⟨UInt8.ofNat (255 - c.toNat), ?_⟩
  rw [h _ c.toNat_lt, UInt8.toNat_ofNat']
  omega

/-- A row of options that is owned; of their bytes nothing is said. -/
structure Rx (S : Nat → Prop) (w : World) (ao : Option Addr) (n cap : Nat) (os : List Opt) (ad : List (Option Addr × Nat)) : Prop where
  len : os.length = n
  adl : ad.length = n
  own : Own w 37 3 ao n cap (optV os ad)
  row : ∀ a, ao = some a → S a.block
  ob : ∀ (i : Nat) (o : Opt) (p : Option Addr × Nat), os[i]? = some o → ad[i]? = some p → (∃ xs, OB w 5 p.1 o.b.length p.2 xs) ∧ ∀ a, p.1 = some a → S a.block ∧ ∀ x, ao = some x → x.block ≠ a.block
  dis : ∀ (i j : Nat) (p q : Option Addr × Nat) (a b : Addr), ad[i]? = some p → ad[j]? = some q → p.1 = some a → q.1 = some b → a.block = b.block → i = j
theorem Ro.x {S : Nat → Prop} {w : World} {ao : Option Addr} {n cap : Nat} {os : List Opt} {ad : List (Option Addr × Nat)} (h : Ro S w ao n cap os ad) : Rx S w ao n cap os ad :=
  ⟨h.len, h.adl, h.own, h.row, fun i o p ho hp => ⟨⟨_, (h.ob i o p ho hp).1⟩, (h.ob i o p ho hp).2⟩, h.dis⟩
theorem Rx.no {S : Nat → Prop} {w w' : World} {ao : Option Addr} {n cap : Nat} {os : List Opt} {ad : List (Option Addr × Nat)} (h : Rx S w ao n cap os ad) (hf : Fr No w w') : Rx S w' ao n cap os ad :=
  ⟨h.len, h.adl, h.own.no hf, h.row, fun i o p ho hp => by obtain ⟨⟨xs, h1⟩, h2⟩ := h.ob i o p ho hp; exact ⟨⟨xs, h1.no hf⟩, h2⟩, h.dis⟩
/-- The option number i: its cells, and its bytes. -/
theorem Rx.get {S : Nat → Prop} {w : World} {ao : Option Addr} {n cap : Nat} {os : List Opt} {ad : List (Option Addr × Nat)} (h : Rx S w ao n cap os ad) {i : Nat} (hi : i < n) :
    ∃ (g : Nat) (o : Opt) (p : Option Addr × Nat), ao = some ⟨g, 0, none⟩ ∧ os[i]? = some o ∧ ad[i]? = some p ∧ w.cell? ⟨g, i * 3 + 2, none⟩ = some (.slice p.1 o.b.length p.2) ∧
      (0 < o.b.length → ∃ b, p.1 = some ⟨b, 0, none⟩ ∧ Some w b o.b.length p.2) := by
  have h1 := h.len
  have h2 := h.adl
  cases ao with
  | none => have := h.own.nocap rfl; have := h.own.le; omega
  | some a =>
    have ho := List.getElem?_eq_getElem (show i < os.length by omega)
    have hp := List.getElem?_eq_getElem (show i < ad.length by omega)
    have e := (h.own.row a rfl).1
    obtain ⟨k1, k2, k3⟩ := optV_get os ad i _ _ ho hp
    have hc := h.own.sl.cell a rfl _ _ k3
    rw [e, Addr.add_lit, Nat.zero_add] at hc
    refine ⟨a.block, os[i], ad[i], by rw [← e], ho, hp, hc, fun hl => ?_⟩
    obtain ⟨⟨xs, hx⟩, -⟩ := h.ob i _ _ ho hp
    obtain ⟨b, hb⟩ := hx.bs.some (by rw [← hx.1]; exact hl)
    have eb := (hx.2.row b hb).1
    refine ⟨b.block, by rw [hb, ← eb], xs, ?_⟩
    rw [← eb, ← hb]; exact hx
theorem Rx.store {S : Nat → Prop} {w : World} {ao : Option Addr} {n cap : Nat} {os : List Opt} {ad : List (Option Addr × Nat)} (h : Rx S w ao n cap os ad) {i : Nat} {o : Opt} {p : Option Addr × Nat} (ho : os[i]? = some o) (hp : ad[i]? = some p)
    {b : Nat} (hb : p.1 = some ⟨b, 0, none⟩) (k : Nat) (hk : k < o.b.length) (c : UInt8) :
    Rx S (w.setCell ⟨b, k, none⟩ (byteV c)) ao n cap os ad ∧ Fr S w (w.setCell ⟨b, k, none⟩ (byteV c)) := by
  obtain ⟨⟨xs, hx⟩, hs⟩ := h.ob i o p ho hp
  obtain ⟨hsb, hne⟩ := hs _ hb
  have hf : Fr (Is b) w (w.setCell ⟨b, k, none⟩ (byteV c)) := Fr.setCell (Fr.refl (Is b) w) (p := ⟨b, k, none⟩) (.inl (show b = b from rfl)) _
  refine ⟨⟨h.len, h.adl, h.own.fr hf (fun a ha hh => hne a ha hh), h.row, fun j o' p' ho' hp' => ?_, h.dis⟩, hf.mono (fun q hq e => by rw [show q = b from e]; exact hsb)⟩
  obtain ⟨⟨ys, hy⟩, hs'⟩ := h.ob j o' p' ho' hp'
  refine ⟨?_, hs'⟩
  by_cases hij : j = i
  · subst hij
    rw [ho] at ho'; rw [hp] at hp'
    cases ho'; cases hp'
    rw [hb] at hx
    obtain ⟨h1, -⟩ := hx.store k hk c
    rw [hb]
    exact ⟨_, h1⟩
  · exact ⟨ys, hy.fr hf (fun a ha hh => hij (h.dis j i p' p a _ hp' hp ha hb hh))⟩

theorem own_start {w w1 w2 : World} {e : Nat} {gb : Option Addr} {m cb : Nat} {bs : List UInt8} (f1 : Fr No w w1) (ho : OB w2 5 gb (0 + m) cb ([] ++ bs)) (f2 : Fr (At (some ⟨w1.heap.size, 0, none⟩)) (w1.alloc (.cells #[] e)) w2) (hd : gb = some ⟨w1.heap.size, 0, none⟩ ∨ ∀ a, gb = some a → (w1.alloc (.cells #[] e)).heap.size ≤ a.block) :
    (∀ a, gb = some a → w.heap.size ≤ a.block) ∧ Fr No w w2 ∧ OB w2 5 gb m cb bs := by
  have hs := f1.size
  refine ⟨fun a ha => ?_, ?_, by simpa using ho⟩
  · rcases hd with hd | hd
    · rw [hd] at ha; cases ha; exact hs
    · have := hd a ha; simp at this; omega
  · refine (f1.alloc _).then f2 (fun i hi h => ?_)
    obtain ⟨a, ha, rfl⟩ := h
    cases ha
    exact absurd hi (by show ¬ w1.heap.size < w.heap.size; omega)
set_option maxHeartbeats 1600000 in
set_option maxRecDepth 100000 in
theorem GeneveOwn_walk {w : World} {oo : Option Addr} {on oc : Nat} {os : List Opt} {ao : Option Addr} {n cap : Nat} {fs : List UInt8} (id : Int) (hi0 : 0 ≤ id) (hi1 : id < 4294967296) (ho : Rs w oo on oc os) (hb : Bs w ao n cap fs) :
    Calls Try.prog 6 #[.int .u32 id, .slice oo on oc, .slice ao n cap] w (ShownOk w) := by
  have hle := hb.2.le
  have hcc := hb.2.capLe
  have hle2 := ho.le
  have hcc2 := ho.capLe
  have HB := Lib.hid (hb.head (min n 10000) (by omega))
  have HO := Lib.hid (ho.take (min on 100) (by omega))
  clear hb ho
  have hcv := fun (wx : World) (a : Option Addr) (m c : Nat) (bs : List UInt8) (h : Bs wx a m c bs) => run_bytes_string (P := Try.prog) wx 24 9 5 h Try.underlying24 Try.underlying5 Try.underlying9
  have HCV := Lib.hid hcv
  clear hcv
  obtain ⟨i, hi24⟩ : ∃ i, i = bits .and .u32 id 16777215 := ⟨_, rfl⟩
  have hi1 : 0 ≤ i := by rw [hi24, u32_mask24 id hi0 hi1]; omega
  have hi2 : i < 16777216 := by rw [hi24, u32_mask24 id hi0 (by assumption)]; omega
  have hi24' := hi24.symm
  clear hi24
  have HI := Lib.hid (Int.toNat_of_nonneg hi1)
  have hm1 : min n 10000 ≤ 10000 := by omega
  have hm3 : min on 100 ≤ 100 := by omega
  generalize hmm : min n 10000 = m at *
  generalize hkk : min on 100 = k at *
  have HMM := Lib.hid hmm
  have HKK := Lib.hid hkk
  clear hmm hkk
  generalize fs.take m = fs' at *
  generalize os.take k = os' at *
  go_enter Try.func6, Try.ntmps6
  go_wp2_with (first
    | (go_at_call 13; refine (shown12_any w).mono ?_; rintro e w1 ⟨rfl, f1⟩; have F1 := Lib.hid f1; clear f1)
    | (go_at_call 14; refine (few12_any _ _ _ hle hcc _).mono ?_; rw [HMM.out]; rintro e w2 ⟨rfl, rfl⟩)
    | (go_at_call 15; refine (some12_any _ _ _ hle2 hcc2 _).mono ?_; rw [HKK.out]; rintro e w2 ⟨rfl, rfl⟩)
    | (at_builtin; refine wpl_append (.tmp 27) (.tmp 29) rfl rfl rfl rfl (OB.made [] (by decide) (by rfl) rfl (by simp)) (HB.out.no (F1.out.alloc _)) (by unfold big; omega) ?_; intro gb cb w2 ho2 f2 hd2 hz2; obtain ⟨hgb, f22, ho22⟩ := own_start (bs := fs') F1.out ho2 f2 hd2; have HGB := Lib.hid hgb; have F2 := Lib.hid f22; have B2 := Lib.hid ho22; have s2 := HCV.out w2 _ _ _ _ ho22.bs; clear ho2 f2 hd2 hz2 ho22 hgb f22))
  by_cases good : rightN os' = 0 ∧ 14 ≤ m ∧ m ≤ 9000
  · obtain ⟨hr, hs1, hs2⟩ := good
    have hsum := (right_zero hr).2
    have HR := Lib.hid hr
    have hN : fs'.length = m := HB.out.1.symm
    have HN := Lib.hid hN
    obtain ⟨L, hL⟩ : ∃ L, L = 8 + osum os' + m := ⟨_, rfl⟩
    have hLb : L ≤ 9260 := by omega
    have HL := Lib.hid hL
    clear hL hr hN s2 F1
    refine (gnEncap_ok i hi1 hi2 (HO.out.no F2.out) (by omega) HR.out B2.out.bs hs1 hs2 (m := L) HL.out).mono ?_
    rintro e w3 ⟨gx, cx, rfl, x3, f3, h3⟩
    have F3 := Lib.hid (F2.out.then_no f3)
    have B3 := Lib.hid (B2.out.no f3)
    have X3 := Lib.hid x3
    have hbx : ∀ a, gb = some a → a.block < gx := fun a ha => by have := B2.out.2.lt a ha; omega
    have HBX := Lib.hid hbx
    have hgx3 : gx < w3.heap.size := by have := x3.2.lt _ rfl; exact this
    have hgxw : w.heap.size ≤ gx := by have := F2.out.size; omega
    have F3S := Lib.hid F3.out.size
    clear x3 f3 h3 hbx F2 B2
    go_wp2_with fail
    refine (gnDecap_any X3.out.bs (by omega)).mono ?_
    have hd := gnDec_out i.toNat (by omega) os' HR.out HO.out.cls fs' (by rw [HN.out]; exact hs1) (by rw [HN.out]; exact hs2)
    rw [HI.out] at hd
    rw [hd]
    clear hd
    rintro e w4 ⟨lo, ln, lc, ad, gp, gcp, rfl, ro, p4, f4, h4⟩
    have hln : ln = k := by rw [← ro.len, HO.out.len]
    subst hln
    rw [HN.out] at p4 ⊢
    rw [HI.out]
    have F4 := Lib.hid (F3.out.then_no f4)
    have B4 := Lib.hid (B3.out.no f4)
    have X4 := Lib.hid (X3.out.no f4)
    have RO4 := Lib.hid ro
    have P4 := Lib.hid p4
    clear f4 p4 ro F3 B3 X3
    go_wp2_with fail
    go_loopw [15] (fun t wr => ∃ k : Nat, k ≤ L ∧ t = .int .i64 k ∧ Some wr gx L cx ∧ Fr (Is gx) w4 wr) (fun t _ => L - (intOf t).toNat)
    case atStart => exact ⟨0, Nat.zero_le _, rfl, ⟨_, X4.out⟩, Fr.refl _ _⟩
    case round =>
      obtain ⟨k, hk, rfl, hx, hf⟩ := hrel
      by_cases hlt : k < L
      · obtain ⟨x1, x2, ⟨u, x3⟩, x4⟩ := hx.store k hlt 255
        have X1 := Lib.hid x1
        have X2 := Lib.hid (hf.trans x2)
        clear x1 x2 hx hf
        go_wp2
        go_roundw
        case rel => exact ⟨k + 1, by omega, by go_num, X1.out, X2.out⟩
        case measure => simp [intOf]; omega
      · have F5 := Lib.hid (F4.out.then hf (by rintro i hi rfl; omega))
        have p5 := P4.out.fr hf (fun a ha hs => by cases ha; simp only [Is] at hs; omega)
        have b5 := B4.out.fr hf (fun a ha hs => by have := HBX.out a ha; simp only [Is] at hs; omega)
        have r5 := RO4.out.fr hf (fun k hk e => by simp only [Iv] at hk; simp only [Is] at e; omega)
        have s1 := HCV.out wr _ _ _ _ p5.bs
        have s2 := HCV.out wr _ _ _ _ b5.bs
        have P5 := Lib.hid p5
        have B5 := Lib.hid b5
        have R5 := Lib.hid r5
        clear hx hf p5 b5 r5 P4 B4 RO4
        go_wp2_with (go_at_call 19; refine (same12_true R5.out.rs (HO.out.no F5.out)).mono ?_; rintro e w6 ⟨rfl, f6⟩; have F6 := Lib.hid (F5.out.then_no f6); have P6 := Lib.hid (P5.out.no f6); have B6 := Lib.hid (B5.out.no f6); have R6 := Lib.hid (R5.out.x.no f6); clear f6)
        clear s1 s2 P5 B5 R5
        go_loopw [17] (fun t wr => ∃ i : Nat, i ≤ ln ∧ t = .int .i64 i ∧ Rx (Iv w3.heap.size gp) wr lo ln lc os' ad ∧ Fr (Iv w3.heap.size gp) w6 wr) (fun t _ => ln - (intOf t).toNat)
        case atStart => exact ⟨0, Nat.zero_le _, rfl, R6.out, Fr.refl _ _⟩
        case round =>
          obtain ⟨i', hi, rfl, hx, hf⟩ := hrel
          have HX := Lib.hid hx
          have HF := Lib.hid hf
          clear hx hf
          by_cases hlt2 : i' < ln
          · obtain ⟨g, o, p, rfl, hoi, hpi, hc, hsome⟩ := HX.out.get hlt2
            have HOI := Lib.hid hoi
            have HPI := Lib.hid hpi
            have hbad := (right_zero HR.out).1 o (List.mem_of_getElem? hoi)
            have hol : o.b.length ≤ 124 := by simp [badO] at hbad; exact hbad.2
            clear hoi hpi hsome hbad
            go_wp2_with fail
            go_loopw [18] (fun t wr => ∃ j : Nat, j ≤ o.b.length ∧ t = .int .i64 j ∧ Rx (Iv w3.heap.size gp) wr (some ⟨g, 0, none⟩) ln lc os' ad ∧ Fr (Iv w3.heap.size gp) w6 wr) (fun t _ => o.b.length - (intOf t).toNat)
            case atStart => exact ⟨0, Nat.zero_le _, rfl, HX.out, HF.out⟩
            case round =>
              clear hc HX HF
              obtain ⟨j, hj, rfl, hx, hf⟩ := hrel
              obtain ⟨g', o', p', hg, ho', hp', hc, hsome⟩ := hx.get hlt2
              cases hg
              rw [HOI.out] at ho'
              cases ho'
              rw [HPI.out] at hp'
              cases hp'
              by_cases hlt3 : j < o.b.length
              · obtain ⟨b, hb, hsm⟩ := hsome (by omega)
                obtain ⟨c, hcj⟩ := hsm.cell j hlt3
                obtain ⟨c', hxor⟩ := xor255 c
                obtain ⟨x1, x2⟩ := hx.store HOI.out HPI.out hb j hlt3 c'
                obtain ⟨_, _, _, hfz⟩ := hsm.store j hlt3 c'
                rw [hb] at hc
                have X1 := Lib.hid x1
                have X2 := Lib.hid (hf.trans x2)
                clear x1 x2 hx hf hsm hsome
                have b1 : (j : Int) < (o.b.length : Int) := by omega
                have b2 : (i' : Int) < (ln : Int) := by omega
                go_wp2_with fail
                go_still_tail 16, (by kernel_rfl)
                change wpList _ _ _ _ _ wr.drew
                go_wp2_with fail
                go_roundw
                case rel => exact ⟨j + 1, by omega, by go_num, X1.out.no ((Fr.refl No _).drew), X2.out.drew⟩
                case measure => simp [intOf]; omega
              · have X1 := Lib.hid hx
                have X2 := Lib.hid hf
                clear hx hf hsome
                have b1 : ¬ (j : Int) < (o.b.length : Int) := by omega
                have b2 : (i' : Int) < (ln : Int) := by omega
                go_wp2_with fail
                go_roundw
                case rel => exact ⟨i' + 1, by omega, by go_num, X1.out, X2.out⟩
                case measure => simp [intOf]; omega
          · have hs3 := F3S.out
            have F7 := Lib.hid (F6.out.then HF.out (fun q hq h => by simp only [Iv] at h; omega))
            have P7 := Lib.hid (P6.out.fr HF.out (fun a ha hs => by cases ha; simp only [Iv] at hs; omega))
            have B7 := Lib.hid (B6.out.fr HF.out (fun a ha hs => by have := HBX.out a ha; simp only [Iv] at hs; omega))
            clear HF HX P6 B6 R6 F6
            go_wp2_with fail
            obtain ⟨wo, rfl⟩ : ∃ wo : World, wo = wr := ⟨_, rfl⟩
            go_loopw [19] (fun t wr => ∃ k2 : Nat, k2 ≤ m ∧ t = .int .i64 k2 ∧ Some wr gp m gcp ∧ Fr (Is gp) wo wr) (fun t _ => m - (intOf t).toNat)
            case atStart => exact ⟨0, Nat.zero_le _, rfl, ⟨_, P7.out⟩, Fr.refl _ _⟩
            case round =>
              obtain ⟨k2, hk2, rfl, hx, hf⟩ := hrel
              by_cases hlt4 : k2 < m
              · obtain ⟨c, hcj⟩ := hx.cell k2 hlt4
                obtain ⟨c', hxor⟩ := xor255 c
                obtain ⟨x1, x2, -, x4⟩ := hx.store k2 hlt4 c'
                have X1 := Lib.hid x1
                have X2 := Lib.hid (hf.trans x2)
                clear x1 x2 hx hf
                go_wp2_with fail
                go_roundw
                case rel => exact ⟨k2 + 1, by omega, by go_num, X1.out, X2.out⟩
                case measure => simp [intOf]; omega
              · have F8 := Lib.hid (F7.out.then hf (by rintro q hq rfl; omega))
                have B8 := Lib.hid (B7.out.fr hf (fun a ha hs => by have := HBX.out a ha; simp only [Is] at hs; omega))
                clear hx hf B7 P7 F7
                go_wp2_with fail
                refine (gnEncap_ok i hi1 hi2 (HO.out.no F8.out) (by omega) HR.out B8.out.bs hs1 hs2 (m := L) HL.out).mono ?_
                rintro e w9 ⟨gy, cy, rfl, x9, f9, h9⟩
                have F9 := Lib.hid (F8.out.then_no f9)
                have B9 := Lib.hid (B8.out.no f9)
                have X9 := Lib.hid x9
                clear x9 f9 h9 F8 B8
                go_wp2_with fail
                refine (gnDecap_any X9.out.bs (by omega)).mono ?_
                have hd := gnDec_out i.toNat (by omega) os' HR.out HO.out.cls fs' (by rw [HN.out]; exact hs1) (by rw [HN.out]; exact hs2)
                rw [HI.out] at hd
                rw [hd]
                clear hd
                rintro e w10 ⟨lo2, ln2, lc2, ad2, gp2, gcp2, rfl, ro, p10, f10, h10⟩
                have hln2 : ln2 = ln := by rw [← ro.len, HO.out.len]
                subst hln2
                rw [HI.out]
                have F10 := Lib.hid (F9.out.then_no f10)
                have s10 := HCV.out w10 _ _ _ _ (B9.out.no f10).bs
                have RO10 := Lib.hid ro.rs
                clear f10 p10 ro F9 B9 X9
                go_wp2_with (go_at_call 19; refine (same12_true RO10.out (HO.out.no F10.out)).mono ?_; rintro e w11 ⟨rfl, f11⟩; have F11 := Lib.hid (F10.out.then_no f11); clear f11)
                go_ret
                exact ⟨rfl, F11.out⟩
  · have key : ∀ (wx : World) (a : Option Addr) (c : Nat), Fr No w wx → ∃ e : Int, Calls Try.prog 16 #[.int .u32 i, .slice oo k oc, .slice a m c] wx (BytesNo wx [geneveS] e) := by
      intro wx a c hf
      by_cases hr : rightN os' = 0
      · by_cases h : m < 14
        · exact ⟨2, gnEncap_size i hi2 (HO.out.no hf) (by omega) hr 2 (.inl ⟨h, rfl⟩)⟩
        · exact ⟨7, gnEncap_size i hi2 (HO.out.no hf) (by omega) hr 7 (.inr ⟨by omega, rfl⟩)⟩
      · exact ⟨_, gnEncap_right i hi2 (HO.out.no hf) (by omega) rfl hr⟩
    obtain ⟨c, hk⟩ := key w2 gb cb F2.out
    clear key good
    refine hk.mono ?_
    clear hk
    rintro e w3 ⟨b, rfl, -, f3⟩
    have s3 := HCV.out w3 _ _ _ _ (B2.out.no f3).bs
    have F3 := Lib.hid (F2.out.then_no f3)
    clear f3 s2
    go_wp2_with fail
    go_ret
    exact ⟨rfl, F3.out⟩

end Go.Proofs.Ytjbieljlhjfpiaa
