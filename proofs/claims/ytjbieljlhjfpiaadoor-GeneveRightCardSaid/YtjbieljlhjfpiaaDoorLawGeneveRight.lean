/- GeneveRight: the walk. -/
import Derived.Test.YtjbieljlhjfpiaaDoorOptRow
import Derived.Test.YtjbieljlhjfpiaaDoorErrAs2
import Derived.Test.YtjbieljlhjfpiaaDoorSh12b
namespace Go.Proofs.YtjbieljlhjfpiaaDoor
open Go.RowKit
set_option linter.unusedVariables false

def opt0 : Opt := ⟨0, 0, []⟩
theorem osum_opt0 (os : List Opt) : osum (os ++ [opt0]) = osum os + 4 := by rw [osum_snoc]; rfl
theorem any_opt0 (os : List Opt) : (os ++ [opt0]).any badO = os.any badO := by
  rw [List.any_append]; simp [badO, opt0]
theorem any_snoc (os : List Opt) (o : Opt) : (os ++ [o]).any badO = (os.any badO || badO o) := by rw [List.any_append]; simp

theorem optsTwo {w w1 w2 : World} {e : Nat} {gb : Option Addr} {m cb : Nat} {os : List Opt} {ad : List (Option Addr × Nat)} (f1 : Fr No w w1) (ho : Own w2 42 3 gb (0 + m) cb ([] ++ optV os ad)) (f2 : Fr (At (some ⟨w1.heap.size, 0, none⟩)) (w1.alloc (.cells #[] e)) w2) (hd : gb = some ⟨w1.heap.size, 0, none⟩ ∨ ∀ a, gb = some a → (w1.alloc (.cells #[] e)).heap.size ≤ a.block) :
    (∀ a, gb = some a → w.heap.size ≤ a.block) ∧ Fr No w w2 ∧ Own w2 42 3 gb m cb (optV os ad) := by
  have hs := f1.size
  refine ⟨fun a ha => ?_, ?_, by simpa using ho⟩
  · rcases hd with hd | hd
    · rw [hd] at ha; cases ha; exact hs
    · have := hd a ha; simp at this; omega
  · refine (f1.alloc _).then f2 (fun i hi h => ?_)
    obtain ⟨a, ha, rfl⟩ := h
    cases ha
    exact absurd hi (by show ¬ w1.heap.size < w.heap.size; omega)

theorem optsMore {w w4 w5 : World} {o : Obj} {gb gc : Option Addr} {k cc : Nat} {os : List Opt} {ad : List (Option Addr × Nat)} (f4 : Fr No w w4) (hgb : ∀ a, gb = some a → w.heap.size ≤ a.block)
    (ho : Own w5 42 3 gc (k + 1) cc (optV os ad ++ [.int .u16 0, .int .u8 0, .slice none 0 0])) (f5 : Fr (At gb) (w4.alloc o) w5) (hl : os.length = k) (hd : ad.length = k)
    (hbs : ∀ (i : Nat) (o : Opt) (p : Option Addr × Nat), os[i]? = some o → ad[i]? = some p → Bs w p.1 o.b.length p.2 o.b) (hc : ∀ o ∈ os, o.cls < 65536) :
    Rs w5 gc (k + 1) cc (os ++ [opt0]) ∧ Fr No w w5 := by
  have hf : Fr No w w5 := (f4.alloc o).then f5 (fun i hi h => by
    obtain ⟨a, ha, rfl⟩ := h
    have := hgb a ha
    exact absurd hi (by omega))
  refine ⟨Rs.of_cells (ad := ad ++ [(none, 0)]) (by rw [optV_snoc _ _ _ _ (by rw [hl, hd])]; exact ho.sl) (by simp [hl]) (by simp [hd]) (fun i o' p h1 h2 => ?_) (fun o' h => ?_), hf⟩
  · by_cases hi : i < k
    · rw [List.getElem?_append_left (by rw [hl]; exact hi)] at h1
      rw [List.getElem?_append_left (by rw [hd]; exact hi)] at h2
      exact (hbs i o' p h1 h2).no hf
    · have hik : i = k := by
        have := (List.getElem?_eq_some_iff.1 h1).1
        simp [hl] at this; omega
      subst hik
      rw [← hl] at h1
      simp at h1
      have h2' : (ad ++ [((none : Option Addr), 0)])[ad.length]? = some p := by rw [hd]; exact h2
      simp at h2'
      subst h1; subst h2'
      exact ⟨rfl, Sl.nil _⟩
  · rcases List.mem_append.1 h with h | h
    · exact hc o' h
    · simp at h; subst h; decide
set_option maxHeartbeats 1600000 in
set_option maxRecDepth 100000 in
theorem GeneveRight_walk {w : World} {oo : Option Addr} {on oc : Nat} {os : List Opt} (hg : EG w) (ho : Rs w oo on oc os) : Calls Tryd.prog 4 #[.slice oo on oc] w (ShownOk w) := by
  have hle2 := ho.le
  have hcc2 := ho.capLe
  have HO := Lib.hid (ho.take (min on 100) (by omega))
  have HG := Lib.hid hg
  clear ho hg
  have hm3 : min on 100 ≤ 100 := by omega
  generalize hkk : min on 100 = k at *
  have HKK := Lib.hid hkk
  clear hkk
  generalize os.take k = os' at *
  obtain ⟨ad, had, hsl, hbs⟩ := HO.out.cells
  have HAD := Lib.hid had
  have HSL := Lib.hid hsl
  have HBS := Lib.hid hbs
  have hlen : os'.length = k := HO.out.len.symm
  have HLN := Lib.hid hlen
  clear had hsl hbs hlen
  go_enter Tryd.func4, Tryd.ntmps4
  go_wp2_with (first
    | (go_at_call 5; refine (shown12_any w).mono ?_; rintro e w1 ⟨rfl, f1⟩; have F1 := Lib.hid f1; clear f1)
    | (go_at_call 7; refine (some12_any _ _ _ hle2 hcc2 _).mono ?_; rw [HKK.out]; rintro e w2 ⟨rfl, rfl⟩)
    | (at_builtin; refine wpl_append_opts (.tmp 10) (.tmp 12) rfl rfl rfl rfl (Own.made (w := w1) (e := 42) (size := 3) #[] 0 rfl (by decide)) (HSL.out.no (F1.out.alloc _)) (by rw [optV_length _ _ (by rw [HAD.out, HLN.out]), HLN.out]) (optV_one _ _) (by omega) ?_; intro gb cb w2 ho2 f2 hd2; obtain ⟨hgb, f22, ho22⟩ := optsTwo (os := os') (ad := ad) F1.out ho2 f2 hd2; have HGB := Lib.hid hgb; have F2 := Lib.hid f22; have O2 := Lib.hid ho22; clear ho2 f2 hd2 ho22 hgb f22))
  have R2 := Lib.hid (Rs.of_cells O2.out.sl HLN.out HAD.out (fun i o p h1 h2 => (HBS.out i o p h1 h2).no F2.out) HO.out.cls)
  go_wp2_with fail
  go_loopw [4, 5, 6] (fun t4 t5 t6 wr => ∃ (i : Nat) (z : Int), t6 = .int .i64 i ∧ i ≤ k ∧ t4 = .int .i64 z ∧ t5 = .bool ((os'.take i).any badO) ∧ ((os'.take i).any badO = false → z = ((osum (os'.take i) : Nat) : Int)) ∧ wr = w2) (fun _ _ t6 _ => k - (intOf t6).toNat)
  case atStart => exact ⟨0, 0, rfl, by omega, rfl, rfl, fun _ => rfl, rfl⟩
  case round =>
    obtain ⟨i, z, rfl, hi, rfl, rfl, hz, rfl⟩ := hrel
    have HZ := Lib.hid hz
    clear hz
    by_cases hlt : i < k
    · obtain ⟨a, o, rfl, hoi, ⟨bo, bc, c1, c2, c3, c4⟩, -⟩ := R2.out.get i hlt
      have HOI := Lib.hid hoi
      have hlc := c4.2.le
      have hlc2 := c4.2.capLe
      clear hoi c1 c2 c4
      cases hb : (os'.take i).any badO with
      | true =>
        have HBD := Lib.hid hb
        clear hb
        go_wp2_with fail
        go_roundw
        case rel => exact ⟨i + 1, _, by go_num, by omega, rfl, by rw [take_snoc HOI.out, any_snoc, HBD.out]; rfl, by rw [take_snoc HOI.out, any_snoc, HBD.out]; simp, by first | rfl | trivial⟩
        case measure => simp [intOf]; omega
      | false =>
        have HBD := Lib.hid hb
        have hze := HZ.out hb
        have hos := osum_le (l := os'.take i) (fun o' ho' => by
          have := List.any_eq_false.1 hb o' ho'
          simpa using this)
        have hlk : (os'.take i).length ≤ i := List.length_take_le _ _
        have hS : osum (os'.take i) ≤ 12800 := by omega
        generalize hSS : osum (os'.take i) = S at *
        have HSS := Lib.hid hSS
        subst hze
        clear hb hos hlk hSS
        by_cases hm : o.b.length % 4 = 0
        · have hmi : ((o.b.length : Nat) : Int) % 4 = 0 := by omega
          by_cases hm2 : 124 < o.b.length
          · have hbo : badO o = true := by simp [badO, hm2]
            have HBO := Lib.hid hbo
            clear hbo
            go_wp2_with fail
            go_roundw
            case rel => exact ⟨i + 1, _, by go_num, by omega, rfl, by rw [take_snoc HOI.out, any_snoc, HBD.out, HBO.out]; exact congrArg Value.bool (decide_eq_true (by omega)), by rw [take_snoc HOI.out, any_snoc, HBD.out, HBO.out]; simp, by first | rfl | trivial⟩
            case measure => simp [intOf]; omega
          · have hbo : badO o = false := by simp [badO, hm]; omega
            have HBO := Lib.hid hbo
            clear hbo
            go_wp2_with fail
            go_roundw
            case rel => exact ⟨i + 1, _, by go_num, by omega, rfl, by rw [take_snoc HOI.out, any_snoc, HBD.out, HBO.out]; exact congrArg Value.bool (decide_eq_false (by omega)), by intro _; rw [take_snoc HOI.out, osum_snoc, HSS.out]; omega, by first | rfl | trivial⟩
            case measure => simp [intOf]; omega
        · have hmi : ¬ ((o.b.length : Nat) : Int) % 4 = 0 := by omega
          have hbo : badO o = true := by simp [badO, hm]
          have HBO := Lib.hid hbo
          clear hbo
          go_wp2_with fail
          all_goals go_roundw
          all_goals first
            | exact ⟨i + 1, _, by go_num, by omega, rfl, by rw [take_snoc HOI.out, any_snoc, HBD.out, HBO.out]; rfl, by rw [take_snoc HOI.out, any_snoc, HBD.out, HBO.out]; simp, by first | rfl | trivial⟩
            | (simp [intOf]; omega)
    · have hall : os'.take i = os' := List.take_of_length_le (by rw [HLN.out]; omega)
      rw [hall] at HZ ⊢
      clear hall
      cases hb : os'.any badO with
      | true =>
        have hr1 : rightN os' = 1 := by unfold rightN; rw [if_pos hb]
        have hr2 : rightN (os' ++ [opt0]) = 1 := by unfold rightN; rw [if_pos (by rw [any_opt0]; exact hb)]
        have HR1 := Lib.hid hr1
        have HR2 := Lib.hid hr2
        clear hr1 hr2 hb
        go_wp2_with (first
          | (go_at_call 16; refine (right_err R2.out (by omega) HR1.out (by decide)).mono ?_; rintro e w3 ⟨b3, rfl, he, f3⟩; have E3 := Lib.hid he; have F3 := Lib.hid (F2.out.then_no f3); have O3 := Lib.hid (O2.out.no f3); clear he f3 R2 O2)
          | (go_at_call 18; have tk := F3; refine (code_any (HG.out.no F3.out) E3.out).mono ?_; rintro e w4 ⟨rfl, f4⟩; have F4 := Lib.hid (F3.out.then_no f4); have O4 := Lib.hid (O3.out.no f4); clear f4 F3 O3 E3)
          | (at_builtin; refine wpl_append_opt (.tmp 52) (.tmp 54) rfl rfl rfl rfl (O4.out.no ((Fr.refl No _).alloc _)) (Own.made (w := w4) (e := 42) (size := 3) _ 1 rfl (by decide)).sl rfl rfl rfl (by omega) ?_; intro gc cc w5 ho5 f5 hd5; obtain ⟨r5, f55⟩ := optsMore F4.out HGB.out ho5 f5 HLN.out HAD.out HBS.out HO.out.cls; have R5 := Lib.hid r5; have F5 := Lib.hid f55; clear ho5 f5 hd5 r5 f55 F4 O4)
          | (go_at_call 16; refine (right_err R5.out (by omega) HR2.out (by decide)).mono ?_; rintro e w6 ⟨b6, rfl, he, f6⟩; have E6 := Lib.hid he; have F6 := Lib.hid (F5.out.then_no f6); clear he f6 R5 F5)
          | (go_at_call 18; refine (code_any (HG.out.no F6.out) E6.out).mono ?_; rintro e w7 ⟨rfl, f7⟩; have F7 := Lib.hid (F6.out.then_no f7); clear f7 F6 E6))
        go_ret
        exact ⟨rfl, F7.out⟩
      | false =>
        by_cases h1 : osum os' ≤ 248
        · have hr1 : rightN os' = 0 := by unfold rightN; rw [if_neg (by rw [hb]; decide), if_neg (by omega)]
          have hr2 : rightN (os' ++ [opt0]) = 0 := by unfold rightN; rw [if_neg (by rw [any_opt0, hb]; decide), osum_opt0, if_neg (by omega)]
          have HR1 := Lib.hid hr1
          have HR2 := Lib.hid hr2
          have i1 :  ((osum os' : Nat) : Int) ≤ 248 := by omega
          have i2 :  ((osum os' : Nat) : Int) ≤ 252 := by omega
          have hz := HZ.out hb
          generalize osum os' = S at *
          subst hz
          clear hr1 hr2 hb HZ
          go_wp2_with (first
            | (go_at_call 16; refine (right_nil R2.out (by omega) HR1.out).mono ?_; rintro e w3 ⟨rfl, f3⟩; have F3 := Lib.hid (F2.out.then_no f3); have O3 := Lib.hid (O2.out.no f3); clear f3 R2 O2)
            | (go_at_call 18; have tk := F3; refine (code_nil _).mono ?_; rintro e w4 ⟨rfl, rfl⟩; have F4 := Lib.hid F3.out; have O4 := Lib.hid O3.out; clear F3 O3)
            | (at_builtin; refine wpl_append_opt (.tmp 52) (.tmp 54) rfl rfl rfl rfl (O4.out.no ((Fr.refl No _).alloc _)) (Own.made (w := w3) (e := 42) (size := 3) _ 1 rfl (by decide)).sl rfl rfl rfl (by omega) ?_; intro gc cc w5 ho5 f5 hd5; obtain ⟨r5, f55⟩ := optsMore F4.out HGB.out ho5 f5 HLN.out HAD.out HBS.out HO.out.cls; have R5 := Lib.hid r5; have F5 := Lib.hid f55; clear ho5 f5 hd5 r5 f55 F4 O4)
            | (go_at_call 16; refine (right_nil R5.out (by omega) HR2.out).mono ?_; rintro e w6 ⟨rfl, f6⟩; have F6 := Lib.hid (F5.out.then_no f6); clear f6 R5 F5)
            | (go_at_call 18; have tk2 := F6; refine (code_nil _).mono ?_; rintro e w7 ⟨rfl, rfl⟩; have F7 := Lib.hid F6.out; clear F6))
          go_ret
          exact ⟨rfl, F7.out⟩
        · by_cases h2 : osum os' ≤ 252
          · have hr1 : rightN os' = 0 := by unfold rightN; rw [if_neg (by rw [hb]; decide), if_neg (by omega)]
            have hr2 : rightN (os' ++ [opt0]) = 7 := by unfold rightN; rw [if_neg (by rw [any_opt0, hb]; decide), osum_opt0, if_pos (by omega)]
            have HR1 := Lib.hid hr1
            have HR2 := Lib.hid hr2
            have i1 : ¬ ((osum os' : Nat) : Int) ≤ 248 := by omega
            have i2 :  ((osum os' : Nat) : Int) ≤ 252 := by omega
            have hz := HZ.out hb
            generalize osum os' = S at *
            subst hz
            clear hr1 hr2 hb HZ
            go_wp2_with (first
              | (go_at_call 16; refine (right_nil R2.out (by omega) HR1.out).mono ?_; rintro e w3 ⟨rfl, f3⟩; have F3 := Lib.hid (F2.out.then_no f3); have O3 := Lib.hid (O2.out.no f3); clear f3 R2 O2)
              | (go_at_call 18; have tk := F3; refine (code_nil _).mono ?_; rintro e w4 ⟨rfl, rfl⟩; have F4 := Lib.hid F3.out; have O4 := Lib.hid O3.out; clear F3 O3)
              | (at_builtin; refine wpl_append_opt (.tmp 52) (.tmp 54) rfl rfl rfl rfl (O4.out.no ((Fr.refl No _).alloc _)) (Own.made (w := w3) (e := 42) (size := 3) _ 1 rfl (by decide)).sl rfl rfl rfl (by omega) ?_; intro gc cc w5 ho5 f5 hd5; obtain ⟨r5, f55⟩ := optsMore F4.out HGB.out ho5 f5 HLN.out HAD.out HBS.out HO.out.cls; have R5 := Lib.hid r5; have F5 := Lib.hid f55; clear ho5 f5 hd5 r5 f55 F4 O4)
              | (go_at_call 16; refine (right_err R5.out (by omega) HR2.out (by decide)).mono ?_; rintro e w6 ⟨b6, rfl, he, f6⟩; have E6 := Lib.hid he; have F6 := Lib.hid (F5.out.then_no f6); clear he f6 R5 F5)
              | (go_at_call 18; have tk2 := F6; refine (code_any (HG.out.no F6.out) E6.out).mono ?_; rintro e w7 ⟨rfl, f7⟩; have F7 := Lib.hid (F6.out.then_no f7); clear f7 F6 E6))
            go_ret
            exact ⟨by simp [i1], F7.out⟩
          · have hr1 : rightN os' = 7 := by unfold rightN; rw [if_neg (by rw [hb]; decide), if_pos (by omega)]
            have hr2 : rightN (os' ++ [opt0]) = 7 := by unfold rightN; rw [if_neg (by rw [any_opt0, hb]; decide), osum_opt0, if_pos (by omega)]
            have HR1 := Lib.hid hr1
            have HR2 := Lib.hid hr2
            have i1 : ¬ ((osum os' : Nat) : Int) ≤ 248 := by omega
            have i2 : ¬ ((osum os' : Nat) : Int) ≤ 252 := by omega
            have hz := HZ.out hb
            generalize osum os' = S at *
            subst hz
            clear hr1 hr2 hb HZ
            go_wp2_with (first
              | (go_at_call 16; refine (right_err R2.out (by omega) HR1.out (by decide)).mono ?_; rintro e w3 ⟨b3, rfl, he, f3⟩; have E3 := Lib.hid he; have F3 := Lib.hid (F2.out.then_no f3); have O3 := Lib.hid (O2.out.no f3); clear he f3 R2 O2)
              | (go_at_call 18; have tk := F3; refine (code_any (HG.out.no F3.out) E3.out).mono ?_; rintro e w4 ⟨rfl, f4⟩; have F4 := Lib.hid (F3.out.then_no f4); have O4 := Lib.hid (O3.out.no f4); clear f4 F3 O3 E3)
              | (at_builtin; refine wpl_append_opt (.tmp 52) (.tmp 54) rfl rfl rfl rfl (O4.out.no ((Fr.refl No _).alloc _)) (Own.made (w := w4) (e := 42) (size := 3) _ 1 rfl (by decide)).sl rfl rfl rfl (by omega) ?_; intro gc cc w5 ho5 f5 hd5; obtain ⟨r5, f55⟩ := optsMore F4.out HGB.out ho5 f5 HLN.out HAD.out HBS.out HO.out.cls; have R5 := Lib.hid r5; have F5 := Lib.hid f55; clear ho5 f5 hd5 r5 f55 F4 O4)
              | (go_at_call 16; refine (right_err R5.out (by omega) HR2.out (by decide)).mono ?_; rintro e w6 ⟨b6, rfl, he, f6⟩; have E6 := Lib.hid he; have F6 := Lib.hid (F5.out.then_no f6); clear he f6 R5 F5)
              | (go_at_call 18; have tk2 := F6; refine (code_any (HG.out.no F6.out) E6.out).mono ?_; rintro e w7 ⟨rfl, f7⟩; have F7 := Lib.hid (F6.out.then_no f7); clear f7 F6 E6))
            go_ret
            exact ⟨by first | rfl | simp [i1, i2], F7.out⟩

end Go.Proofs.YtjbieljlhjfpiaaDoor
