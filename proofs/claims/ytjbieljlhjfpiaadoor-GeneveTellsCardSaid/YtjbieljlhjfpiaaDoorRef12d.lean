/- The reference of layer 12: Decap, the walk. -/
import Derived.Test.YtjbieljlhjfpiaaDoorRef12c
import Derived.BigQuiet
import Derived.Deep.RegionLaw
namespace Go.Proofs.YtjbieljlhjfpiaaDoor
open Go.RowKit
set_option linter.unusedVariables false

def strLen : Value → Nat
  | .string s => s.size
  | _ => 0
set_option maxHeartbeats 4000000 in
set_option maxRecDepth 100000 in
theorem ref12Decap_any (bs : List UInt8) (hn : bs.length ≤ 10000) (w : World) : Calls Tryd.prog 11 #[.string ⟨bs.toArray⟩] w (R12 w (gnDec bs)) := by
  have hsz := strSize bs
  go_enter Tryd.func11, Tryd.ntmps11
  go_upto_if 14 with fail
  by_cases h8 : bs.length < 8
  · have HG : Hid (gnDec bs = .no true 2) := Lib.hid (by unfold gnDec; rw [if_pos h8])
    go_wp2_with fail
    refine bodyPost_ret (v := .tuple #[.int .u32 0, .slice none 0 0, .string ⟨#[]⟩, .int .i64 2, .bool true]) (by simp [results, Tryd.results11, go_sem]) rfl ?_
    rw [HG.out]
    exact ⟨rfl, Fr.refl _ _⟩
  · obtain ⟨a, b, c, d, x4, x5, x6, x7, r, hbs⟩ := eight_head bs h8
    have HD := Lib.hid (gnDec_at hbs)
    have ia : ∀ h, (({ data := bs.toArray } : ByteArray)[0]'h) = a := fun h => by subst hbs; rfl
    have ib : ∀ h, (({ data := bs.toArray } : ByteArray)[1]'h) = b := fun h => by subst hbs; rfl
    have ic : ∀ h, (({ data := bs.toArray } : ByteArray)[2]'h) = c := fun h => by subst hbs; rfl
    have id' : ∀ h, (({ data := bs.toArray } : ByteArray)[3]'h) = d := fun h => by subst hbs; rfl
    have la := a.toNat_lt
    have lb := b.toNat_lt
    have lc := c.toNat_lt
    have ld := d.toNat_lt
    clear hbs
    by_cases h1 : 64 ≤ a.toNat ∨ 128 ≤ b.toNat
    · have HG : Hid (gnDec bs = .no false 3) := Lib.hid (by rw [HD.out, if_pos h1])
      by_cases h11 : 64 ≤ a.toNat
      · have k1 : (64 : Int) ≤ (a.toNat : Int) := by omega
        clear h1
        go_wp2_with fail
        refine bodyPost_ret (v := .tuple #[.int .u32 0, .slice none 0 0, .string ⟨#[]⟩, .int .i64 3, .bool false]) (by simp [results, Tryd.results11, go_sem]) rfl ?_
        rw [HG.out]
        exact ⟨rfl, Fr.refl _ _⟩
      · have k1 : ¬ (64 : Int) ≤ (a.toNat : Int) := by omega
        have k2 : (128 : Int) ≤ (b.toNat : Int) := by omega
        clear h1
        go_wp2_with fail
        refine bodyPost_ret (v := .tuple #[.int .u32 0, .slice none 0 0, .string ⟨#[]⟩, .int .i64 3, .bool false]) (by simp [results, Tryd.results11, go_sem]) rfl ?_
        rw [HG.out]
        exact ⟨rfl, Fr.refl _ _⟩
    · have k1 : ¬ (64 : Int) ≤ (a.toNat : Int) := by omega
      have k2 : ¬ (128 : Int) ≤ (b.toNat : Int) := by omega
      have H1 := Lib.hid h1
      clear h1
      by_cases h2 : c.toNat = 101 ∧ d.toNat = 88
      · have k4 : (c.toNat : Int) = 101 := by omega
        have k5 : (d.toNat : Int) = 88 := by omega
        have H2 := Lib.hid h2
        clear h2
        obtain ⟨K, hK⟩ : ∃ K, K = 4 * (a.toNat % 64) := ⟨_, rfl⟩
        have HD2 : Hid _ := Lib.hid (by have h := HD.out; rw [if_neg H1.out, if_neg (by simpa using H2.out), ← hK] at h; exact h)
        have hK2 : K ≤ 252 := by omega
        have e1 : (4 : Int) * ((a.toNat : Int) % 64) = (K : Int) := by omega
        have E1 := Lib.hid e1
        have HK := Lib.hid hK
        clear hK e1
        go_upto_if 40 with fail
        rw [E1.out]
        have hw8 : IntKind.i64.wrap ((bs.length : Int) - 8) = ((bs.length - 8 : Nat) : Int) := by rw [IntKind.wrap_i64]; omega
        by_cases h3 : bs.length < 8 + K
        · have HG : Hid (gnDec bs = .no true 2) := Lib.hid (by rw [HD2.out, if_pos h3])
          go_wp2_with fail
          refine bodyPost_ret (v := .tuple #[.int .u32 0, .slice none 0 0, .string ⟨#[]⟩, .int .i64 2, .bool true]) (by simp [results, Tryd.results11, go_sem]) rfl ?_
          rw [HG.out]
          exact ⟨rfl, Fr.refl _ _⟩
        · have HD3 : Hid _ := Lib.hid (by have h := HD2.out; rw [if_neg h3] at h; exact h)
          obtain ⟨l, hl⟩ : ∃ l, l = (bs.drop 8).take K := ⟨_, rfl⟩
          have hlK : l.length = K := by rw [hl, List.length_take, List.length_drop]; omega
          have hex : ({ data := bs.toArray } : ByteArray).extract 8 (8 + K) = ⟨l.toArray⟩ := by rw [extract_str, hl]; congr 3; omega
          have HEX := Lib.hid hex
          have HL := Lib.hid hl
          clear hex hl
          go_wp2_with fail
          have h3' := Lib.hid h3
          clear ia ic id' h3 k1 k2 k4 k5 h8
          go_loopw [8, 9] (fun t8 t9 wr => ∃ (r : List UInt8) (co : Option Addr) (k cap : Nat) (os : List Opt) (ad : List (Option Addr × Nat)), t8 = .string ⟨r.toArray⟩ ∧ r.length % 4 = 0 ∧ r.length ≤ 252 ∧ t9 = .slice co k cap ∧ k ≤ 1000 - r.length ∧
              Rw w.heap.size wr co k cap os ad ∧ optsOf l = (optsOf r).map (os ++ ·) ∧ Fr No w wr) (fun t8 _ _ => strLen t8)
          case atStart => exact ⟨l, none, 0, 0, [], [], by rw [← HEX.out], by have := HK.out; omega, by omega, rfl, by omega, Rw.nil _ _, by simp, Fr.refl _ _⟩
          case round =>
            clear HEX
            obtain ⟨r, co, k, cap, os, ad, rfl, hr4, hr252, rfl, hk, hro, heq, hf⟩ := hrel
            have HR := Lib.hid hro
            have HE := Lib.hid heq
            have F1 := Lib.hid hf
            have hsr := strSize r
            clear hro heq hf
            by_cases hnil : r = []
            · subst hnil
              have he : optsOf l = some os := by rw [HE.out, optsOf_nil]; simp
              have HE2 := Lib.hid he
              clear he HE
              go_wp2_with fail
              have hfl : ((b.toNat : Int) / 64 % 2 == 1) = decide (b.toNat / 64 % 2 = 1) := by by_cases h : b.toNat / 64 % 2 = 1 <;> simp [h] <;> omega
              obtain ⟨fb, hfb⟩ : ∃ fb, fb = decide (b.toNat / 64 % 2 = 1) := ⟨_, rfl⟩
              rw [← hfb] at hfl
              obtain ⟨ac, hac⟩ : ∃ ac, ac = anyCrit os := ⟨_, rfl⟩
              have HD4 : Hid (gnDec bs = if ac ≠ fb then .no false 3 else gnFrame (be ((bs.drop 4).take 3)) os (bs.drop (8 + K))) := Lib.hid (by rw [HD3.out, ← HL.out, HE2.out, hac, hfb])
              have HAC := Lib.hid hac
              have RS := Lib.hid HR.out.rs
              have i1 : 1 < (bs.length : Int) := by have := h3'.out; omega
              clear hfb hac HR HE2 HD HD2 HD3
              have hsm := fun k : Nat => (ref12some_any (RS.out.no ((Fr.refl No wr).drewN k)))
              rw [← HAC.out] at hsm
              have HSM := Lib.hid hsm
              clear hsm
              go_quiet ((refine Calls.mono (HSM.out _) ?_; rintro e w' ⟨rfl, rfl⟩; exact ⟨rfl, _, rfl⟩))
              have F2 := Lib.hid (F1.out.drewN nq)
              have RS2 := Lib.hid (RS.out.no ((Fr.refl No wr).drewN nq))
              generalize wr.drewN nq = wq at *
              have hdl : (bs.drop (8 + K)).length = bs.length - (8 + K) := List.length_drop
              clear hfl HSM RS F1 ib
              by_cases hcf : ac = fb
              · have HD5 : Hid (gnDec bs = gnFrame (be ((bs.drop 4).take 3)) os (bs.drop (8 + K))) := Lib.hid (by rw [HD4.out, if_neg (by simpa using hcf)])
                have hor : (ac = true ∧ fb = true) ∨ (ac = false ∧ fb = false) := by subst hcf; cases ac <;> simp
                clear hcf HD4
                rcases hor with ⟨rfl, rfl⟩ | ⟨rfl, rfl⟩
                all_goals
                  have e8 : ((bs.length - 8 : Nat) : Int) - (K : Int) = ((bs.length - (8 + K) : Nat) : Int) := by have := h3'.out; omega
                  have E8 := Lib.hid e8
                  clear e8
                  by_cases hs : sizeN ((bs.length - (8 + K) : Nat) : Int) = 0
                  · have hz := hs
                    unfold sizeN at hz
                    have HG2 : Hid (gnDec bs = .ok (be ((bs.drop 4).take 3)) os (bs.drop (8 + K))) := Lib.hid (by rw [HD5.out, gnFrame, if_neg (by split at hz <;> omega), if_neg (by split at hz; omega; split at hz <;> omega)])
                    have HS := Lib.hid hs
                    clear hs hz hdl
                    go_wp2_with (go_at_call 28; rw [E8.out]; refine (ref11Size_any _ _).mono ?_; rw [HS.out]; rintro e w6 ⟨rfl, rfl⟩)
                    have b1 : (7 : Int) ≤ (bs.length : Int) := by have := h3'.out; omega
                    have b2 : (8 : Int) + (K : Int) ≤ (bs.length : Int) := by have := h3'.out; omega
                    have b3 : (0 : Int) ≤ (8 : Int) + (K : Int) := by omega
                    have b4 : IntKind.i64.wrap ((8 : Int) + (K : Int)) = (8 : Int) + (K : Int) := by rw [IntKind.wrap_i64]; omega
                    have b5 : ((8 : Int) + (K : Int)).toNat = 8 + K := by omega
                    have hx2 := fun (wx : World) => ref11Number_s (({ data := bs.toArray } : ByteArray).extract 4 7) (by rw [ByteArray.size_extract]; omega) wx
                    have HX := Lib.hid hx2
                    clear hx2
                    go_region_held3 (fun w' => True) (trivial) (first | (go_at_call 37; refine (HX.out _).mono ?_; rintro e w1 ⟨rfl, rfl⟩))
                    go_wp2_with fail
                    refine bodyPost_ret (v := .tuple #[.int .u32 (be (({ data := bs.toArray } : ByteArray).extract 4 7).data.toList : Nat), .slice co k cap, .string (({ data := bs.toArray } : ByteArray).extract (8 + K) bs.length), .int .i64 0, .bool false]) (by simp [results, Tryd.results11, go_sem]) rfl ?_
                    rw [HG2.out]
                    refine ⟨co, k, cap, ?_, RS2.out.no ((Fr.refl No _).drew), F2.out.drew⟩
                    have ed : (bs.drop (8 + K)).take (bs.length - (8 + K)) = bs.drop (8 + K) := List.take_of_length_le (by rw [List.length_drop]; exact Nat.le_refl _)
                    rw [extract_toList, extract_str, ed]
                  · have HG2 : Hid (gnDec bs = .no false (sizeN ((bs.length - (8 + K) : Nat) : Int))) := Lib.hid (by
                      rw [HD5.out, gnFrame, hdl]
                      unfold sizeN at hs ⊢
                      by_cases g1 : bs.length - (8 + K) < 14
                      · rw [if_pos g1, if_pos (by omega)]
                      · by_cases g2 : 9000 < bs.length - (8 + K)
                        · rw [if_neg g1, if_pos g2, if_neg (by omega), if_pos (by omega)]
                        · rw [if_neg (by omega), if_neg (by omega)] at hs
                          exact absurd rfl hs)
                    have hne : ¬ sizeN ((bs.length - (8 + K) : Nat) : Int) = 0 := hs
                    clear hs hdl
                    go_wp2_with (go_at_call 28; rw [E8.out]; refine (ref11Size_any _ _).mono ?_; rintro e w6 ⟨rfl, rfl⟩)
                    refine bodyPost_ret (v := .tuple #[.int .u32 0, .slice none 0 0, .string ⟨#[]⟩, .int .i64 (sizeN ((bs.length - (8 + K) : Nat) : Int)), .bool false]) (by simp [results, Tryd.results11, go_sem]) rfl ?_
                    rw [HG2.out]
                    exact ⟨rfl, F2.out⟩
              · have HG : Hid (gnDec bs = .no false 3) := Lib.hid (by rw [HD4.out, if_pos (by simpa using hcf)])
                have hor : (ac = true ∧ fb = false) ∨ (ac = false ∧ fb = true) := by cases ac <;> cases fb <;> first | exact absurd rfl hcf | simp
                clear hcf HD4
                rcases hor with ⟨rfl, rfl⟩ | ⟨rfl, rfl⟩
                all_goals
                  go_wp2_with fail
                  refine bodyPost_ret (v := .tuple #[.int .u32 0, .slice none 0 0, .string ⟨#[]⟩, .int .i64 3, .bool false]) (by simp [results, Tryd.results11, go_sem]) rfl ?_
                  rw [HG.out]
                  exact ⟨rfl, F2.out⟩
            · obtain ⟨a2, b2, t, c2, r', hr⟩ := list4 (l := r) (by have : r.length ≠ 0 := fun h => hnil (List.eq_nil_of_length_eq_zero h); omega)
              have HST := Lib.hid (optsOf_step hr)
              have HRR := Lib.hid hr
              have ja : ∀ h, (({ data := r.toArray } : ByteArray)[0]'h) = a2 := fun h => by subst hr; rfl
              have jb : ∀ h, (({ data := r.toArray } : ByteArray)[1]'h) = b2 := fun h => by subst hr; rfl
              have jc : ∀ h, (({ data := r.toArray } : ByteArray)[2]'h) = t := fun h => by subst hr; rfl
              have jd : ∀ h, (({ data := r.toArray } : ByteArray)[3]'h) = c2 := fun h => by subst hr; rfl
              have hrl : r'.length + 4 = r.length := by rw [hr]; simp
              have hem : r.isEmpty = false := by rw [hr]; rfl
              clear hr hnil
              have lc2 := c2.toNat_lt
              by_cases hbad : 32 ≤ c2.toNat ∨ r.length < 4 + 4 * c2.toNat
              · have he : optsOf l = none := by rw [HE.out, HST.out, if_pos (by omega)]; rfl
                have HG : Hid (gnDec bs = .no false 3) := Lib.hid (by rw [HD3.out, ← HL.out, he])
                by_cases h32 : 32 ≤ c2.toNat
                · have m1 : (32 : Int) ≤ (c2.toNat : Int) := by omega
                  clear hbad he
                  go_wp2_with fail
                  refine bodyPost_ret (v := .tuple #[.int .u32 0, .slice none 0 0, .string ⟨#[]⟩, .int .i64 3, .bool false]) (by simp [results, Tryd.results11, go_sem]) rfl ?_
                  rw [HG.out]
                  exact ⟨rfl, F1.out⟩
                · have m1 : ¬ (32 : Int) ≤ (c2.toNat : Int) := by omega
                  have m2 : (r.length : Int) < 4 + 4 * (c2.toNat : Int) := by omega
                  clear hbad he
                  go_wp2_with fail
                  refine bodyPost_ret (v := .tuple #[.int .u32 0, .slice none 0 0, .string ⟨#[]⟩, .int .i64 3, .bool false]) (by simp [results, Tryd.results11, go_sem]) rfl ?_
                  rw [HG.out]
                  exact ⟨rfl, F1.out⟩
              · have m1 : ¬ (32 : Int) ≤ (c2.toNat : Int) := by omega
                have m2 : ¬ (r.length : Int) < 4 + 4 * (c2.toNat : Int) := by omega
                obtain ⟨E, hE⟩ : ∃ E, E = 4 + 4 * c2.toNat := ⟨_, rfl⟩
                have e1 : (4 : Int) + 4 * (c2.toNat : Int) = (E : Int) := by omega
                have EE1 := Lib.hid e1
                have HEE := Lib.hid hE
                have hE2 : 4 ≤ E ∧ E ≤ r.length := by omega
                have HB := Lib.hid hbad
                clear hbad e1 hE
                go_upto_region 16 with fail
                rw [EE1.out]
                have lb2 := b2.toNat_lt
                have la2 := a2.toNat_lt
                have y1 : IntKind.u16.wrap (a2.toNat : Int) = (a2.toNat : Int) := by rw [IntKind.wrap_u16]; omega
                have y2 : IntKind.u16.wrap ((a2.toNat : Int) * 256) = (a2.toNat : Int) * 256 := by rw [IntKind.wrap_u16]; omega
                have y3 : IntKind.u16.wrap (b2.toNat : Int) = (b2.toNat : Int) := by rw [IntKind.wrap_u16]; omega
                have y4 : IntKind.u16.wrap ((a2.toNat : Int) * 256 + (b2.toNat : Int)) = (a2.toNat : Int) * 256 + (b2.toNat : Int) := by rw [IntKind.wrap_u16]; omega
                have i1 : (4 : Int) ≤ (E : Int) := by omega
                have i2 : (E : Int) ≤ (r.length : Int) := by omega
                have hcv := fun (wx : World) (s : ByteArray) => Lib.run_convert_string_bytes (P := Tryd.prog) wx 9 24 5 s Tryd.underlying9 Tryd.underlying24 Tryd.underlying5
                have j0 : 0 < r.length := by omega
                have j1 : (1 : Int) < (r.length : Int) := by omega
                have j2 : (2 : Int) < (r.length : Int) := by omega
                obtain ⟨seg, hseg⟩ : ∃ seg, ({ data := r.toArray } : ByteArray).extract 4 E = seg := ⟨_, rfl⟩
                have hsegl : seg.data.toList = (r.drop 4).take (E - 4) := by rw [← hseg, extract_toList]
                have hsegn : seg.size = E - 4 := by rw [← hseg, ByteArray.size_extract, hsr]; omega
                have HSL := Lib.hid hsegl
                have HSN := Lib.hid hsegn
                have FB := Lib.hid (((Fr.refl No wr).drew).then_no (bytesW_fr wr.drew seg))
                have BB := Lib.hid (bytesW_bs wr.drew seg (by omega))
                clear hsegl hsegn hcv
                have hcv : (convert 9 24 (.string seg)).run Tryd.prog wr.drew = .ok (.slice (some ⟨wr.heap.size, 0, none⟩) seg.size (grownCap wr.drew seg.size 0 5)) (Lib.bytesWorld wr.drew 5 seg) := Lib.run_convert_string_bytes (P := Tryd.prog) wr.drew 9 24 5 seg Tryd.underlying9 Tryd.underlying24 Tryd.underlying5
                have hbz : (Lib.bytesWorld wr.drew 5 seg).heap.size = wr.heap.size + 1 := Lib.bytesWorld_size wr.drew 5 seg
                generalize grownCap wr.drew seg.size 0 5 = gc at hcv BB
                generalize Lib.bytesWorld wr.drew 5 seg = wb at hcv hbz FB BB
                have hs2 : Sl (wb.alloc (.cells #[.int .u16 ((a2.toNat : Int) * 256 + (b2.toNat : Int)), .int .u8 (t.toNat : Int), .slice (some ⟨wr.heap.size, 0, none⟩) seg.size gc] 42)) (some ⟨wr.heap.size + 1, 0, none⟩) 1 1 [.int .u16 ((a2.toNat : Int) * 256 + (b2.toNat : Int)), .int .u8 (t.toNat : Int), .slice (some ⟨wr.heap.size, 0, none⟩) seg.size gc] := by
                  have := (Own.made (w := wb) (e := 42) (size := 3) #[.int .u16 ((a2.toNat : Int) * 256 + (b2.toNat : Int)), .int .u8 (t.toNat : Int), .slice (some ⟨wr.heap.size, 0, none⟩) seg.size gc] 1 rfl (by decide)).sl
                  rwa [hbz] at this
                have S2 := Lib.hid hs2
                clear hs2
                go_cut [9] (fun t9 w' => ∃ co' cap' ad', t9 = .slice co' (k + 1 : Nat) cap' ∧ Rw w.heap.size w' co' (k + 1) cap' (os ++ [⟨a2.toNat * 256 + b2.toNat, t, (r.drop 4).take (E - 4)⟩]) ad' ∧ Fr No w w')
                case first =>
                  go_region_law ((refine step_append_opt (.tmp 65) (.tmp 81) rfl rfl rfl rfl (HR.out.own.no (FB.out.alloc _)) S2.out rfl rfl rfl (by omega) ?_; intro co' cap' w3 ho f3 hd))
                  all_goals clear ja jb jc jd j0 j1 j2 y1 y2 y3 y4 hcv
                  all_goals go_wp2_with fail
                  all_goals go_meet
                  all_goals
                    have e : seg.size = ((r.drop 4).take (E - 4)).length := by rw [← HSL.out, Array.length_toList]; rfl
                    refine ⟨co', cap', _, rfl, Rw.snoc (pb := wr.heap.size) (pc := gc) (HR.out.no (FB.out.alloc _)) ?_ ?_ ?_ ?_ ?_ ?_ f3 hd, ?_⟩
                    · have h := BB.out.no ((Fr.refl No wb).alloc (.cells #[.int .u16 ((a2.toNat : Int) * 256 + (b2.toNat : Int)), .int .u8 (t.toNat : Int), .slice (some ⟨wr.heap.size, 0, none⟩) seg.size gc] 42))
                      rw [HSL.out, e] at h
                      rw [← e] at h ⊢
                      exact h
                    · simp [hbz]; omega
                    · intro x hx
                      have := HR.out.own.lt x hx
                      omega
                    · show a2.toNat * 256 + b2.toNat < 65536
                      omega
                    · have := F1.out.size
                      simp [hbz]; omega
                    · have h := ho
                      rw [e] at h
                      show Own _ _ _ _ _ _ (_ ++ [.int .u16 ((a2.toNat * 256 + b2.toNat : Nat) : Int), _, _])
                      rw [show ((a2.toNat * 256 + b2.toNat : Nat) : Int) = (a2.toNat : Int) * 256 + (b2.toNat : Int) by omega]
                      exact h
                    · refine (F1.out.then_no (FB.out.alloc _)).then f3 (fun i hi hc => ?_)
                      obtain ⟨a, ha, rfl⟩ := hc
                      have h := HR.out.row a ha
                      omega
                case rest =>
                  obtain ⟨co', cap', ad', rfl, hro2, hf2⟩ := hcut
                  have HR2 := Lib.hid hro2
                  have F2 := Lib.hid hf2
                  clear hro2 hf2 ja jb jc jd j0 j1 j2 y1 y2 y3 y4 hcv HR
                  go_wp2_with fail
                  go_roundw
                  case rel =>
                    have hEE := HEE.out
                    have hc32 : c2.toNat % 32 = c2.toNat := by omega
                    have hd4 : r.drop 4 = r' := by rw [HRR.out]; rfl
                    have hdE : r.drop E = r'.drop (4 * c2.toNat) := by rw [HRR.out, hEE, Nat.add_comm]; rfl
                    refine ⟨r.drop E, co', k + 1, cap', _, ad', ?_, ?_, ?_, rfl, ?_, HR2.out, ?_, F2.out⟩
                    · rw [extract_str, List.take_of_length_le (by rw [List.length_drop]; exact Nat.le_refl _)]
                    · rw [List.length_drop]; omega
                    · rw [List.length_drop]; omega
                    · rw [List.length_drop]; omega
                    · rw [HE.out, HST.out, if_neg (by rw [hc32]; omega), Option.map_map, hc32, hdE, hd4, show E - 4 = 4 * c2.toNat by omega]
                      congr 1
                      funext z
                      simp
                  case measure => simp [strLen]; omega
      · have HG : Hid (gnDec bs = .no false 12) := Lib.hid (by rw [HD.out, if_neg H1.out, if_pos h2])
        by_cases h21 : c.toNat = 101
        · have k4 : (c.toNat : Int) = 101 := by omega
          have k5 : ¬ (d.toNat : Int) = 88 := by omega
          clear h2
          go_wp2_with fail
          refine bodyPost_ret (v := .tuple #[.int .u32 0, .slice none 0 0, .string ⟨#[]⟩, .int .i64 12, .bool false]) (by simp [results, Tryd.results11, go_sem]) rfl ?_
          rw [HG.out]
          exact ⟨rfl, Fr.refl _ _⟩
        · have k4 : ¬ (c.toNat : Int) = 101 := by omega
          clear h2
          go_wp2_with fail
          refine bodyPost_ret (v := .tuple #[.int .u32 0, .slice none 0 0, .string ⟨#[]⟩, .int .i64 12, .bool false]) (by simp [results, Tryd.results11, go_sem]) rfl ?_
          rw [HG.out]
          exact ⟨rfl, Fr.refl _ _⟩

end Go.Proofs.YtjbieljlhjfpiaaDoor
