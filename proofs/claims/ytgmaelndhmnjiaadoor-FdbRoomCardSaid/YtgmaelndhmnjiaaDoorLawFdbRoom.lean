/- FdbRoom. -/
import Derived.Test.YtgmaelndhmnjiaaDoorLawFdbStatic
namespace Go.Proofs.YtgmaelndhmnjiaaDoor
open Go.RowKit
set_option linter.unusedVariables false
set_option linter.unusedSimpArgs false

theorem Sor.nd {A : AL} (h : Sor A) : A.Nodup := List.Pairwise.imp (fun h1 e => by rw [e, ltM_irrefl] at h1; cases h1) h
theorem Sor.ext {A B : AL} (h1 : Sor A) (h2 : Sor B) (h : ∀ x, x ∈ A ↔ x ∈ B) : A = B := h1.eq h2 ((List.perm_ext_iff_of_nodup h1.nd h2.nd).2 h)
def mk2 (j : Nat) : Mac := ⟨2, 0, 0, 0, 0, UInt8.ofNat j⟩
def ent (j : Nat) : En := ⟨mk2 j, false, j, j, false⟩
def rowsF (lo i : Nat) : AL := (List.range' lo (i - lo)).map ent
theorem lt_mk2 {j k : Nat} (hj : j < 256) (hk : k < 256) : ltM (mk2 j) (mk2 k) = decide (j < k) := by
  have h : (UInt8.ofNat j < UInt8.ofNat k) ↔ j < k := by
    rw [UInt8.lt_iff_toNat_lt, UInt8.toNat_ofNat', UInt8.toNat_ofNat']
    omega
  unfold ltM macL mk2
  simp [List.cons_lt_cons_iff, h]
theorem mk2_inj {j k : Nat} (hj : j < 256) (hk : k < 256) (h : mk2 j = mk2 k) : j = k := by
  have h1 := lt_mk2 hj hk
  have h2 := lt_mk2 hk hj
  rw [h, ltM_irrefl] at h1
  rw [h, ltM_irrefl] at h2
  have h3 : ¬ j < k := by simpa using h1.symm
  have h4 : ¬ k < j := by simpa using h2.symm
  omega
theorem mem_rows {lo i : Nat} {e : En} : e ∈ rowsF lo i ↔ ∃ j, lo ≤ j ∧ j < i ∧ ent j = e := by
  unfold rowsF
  rw [List.mem_map]
  constructor
  · rintro ⟨j, hj, rfl⟩
    rw [List.mem_range'_1] at hj
    exact ⟨j, hj.1, by omega, rfl⟩
  · rintro ⟨j, h1, h2, rfl⟩
    exact ⟨j, by rw [List.mem_range'_1]; omega, rfl⟩
theorem rows_sor {lo i : Nat} (hi : i ≤ 256) : Sor (rowsF lo i) := by
  unfold Sor rowsF
  rw [List.pairwise_map]
  refine List.Pairwise.imp_of_mem ?_ (List.pairwise_lt_range' (s := lo) (n := i - lo))
  intro a b ha hb hab
  rw [List.mem_range'_1] at ha hb
  rw [show (ent a).mac = mk2 a from rfl, show (ent b).mac = mk2 b from rfl, lt_mk2 (by omega) (by omega)]
  simpa using hab
theorem rows_len (lo i : Nat) : (rowsF lo i).length = i - lo := by simp [rowsF]
theorem rows_put {lo i : Nat} (hl : lo ≤ i) (hi : i < 255) : aput (rowsF lo i) (ent i) = rowsF lo (i + 1) := by
  refine Sor.ext ((rows_sor (by omega)).put _) (rows_sor (by omega)) ?_
  intro x
  rw [mem_aput, mem_rows, mem_rows]
  constructor
  · rintro (rfl | ⟨⟨j, h1, h2, rfl⟩, h3⟩)
    · exact ⟨i, hl, by omega, rfl⟩
    · exact ⟨j, h1, by omega, rfl⟩
  · rintro ⟨j, h1, h2, rfl⟩
    by_cases hji : j = i
    · subst hji; exact .inl rfl
    · exact .inr ⟨⟨j, h1, by omega, rfl⟩, fun h => hji (mk2_inj (by omega) (by omega) h)⟩
theorem rows_del {lo i : Nat} (hi : i ≤ 256) (hl : lo < 256) : adel (rowsF lo i) (mk2 lo) = rowsF (lo + 1) i := by
  refine Sor.ext ((rows_sor hi).filter _) (rows_sor hi) ?_
  intro x
  rw [mem_adel, mem_rows, mem_rows]
  constructor
  · rintro ⟨⟨j, h1, h2, rfl⟩, h3⟩
    have : j ≠ lo := fun h => h3 (by subst h; rfl)
    exact ⟨j, by omega, h2, rfl⟩
  · rintro ⟨j, h1, h2, rfl⟩
    exact ⟨⟨j, by omega, h2, rfl⟩, fun h => by have := mk2_inj (by omega) (by omega) h; omega⟩
theorem rows_least {lo i : Nat} (hl : lo < i) (hi : i ≤ 256) : aleast (rowsF lo i) = some (ent lo) := by
  refine aleast_of (rows_sor hi) (mem_rows.2 ⟨lo, Nat.le_refl _, hl, rfl⟩) rfl ?_
  intro q hq _
  obtain ⟨j, h1, h2, rfl⟩ := mem_rows.1 hq
  rw [cmpA_neg]
  rintro (h | ⟨-, h⟩)
  · have h' : (j : Int) < (lo : Int) := h
    omega
  · have h' : ltM (mk2 j) (mk2 lo) = true := h
    rw [lt_mk2 (by omega) (by omega)] at h'
    have := of_decide_eq_true h'
    omega
theorem grp_mk2 (j : Nat) : grpM (mk2 j) = false := by
  have h : decide ((2 : UInt8).toNat % 2 = 1) = false := by decide
  exact h
/-- One more is learned. -/
theorem rows_learn {rm i : Nat} (hr : 1 ≤ rm) (hi : i < 255) : alearn rm (rowsF (i - rm) i) (mk2 i) ⟨false, i⟩ i = (false, 0, rowsF (i + 1 - rm) (i + 1)) := by
  have hg : aget (rowsF (i - rm) i) (mk2 i) = none := by
    rw [aget_none]
    intro x hx
    obtain ⟨j, h1, h2, rfl⟩ := mem_rows.1 hx
    intro h
    have := mk2_inj (j := j) (k := i) (by omega) (by omega) h
    omega
  unfold alearn
  rw [grp_mk2, hg]
  simp only [Bool.false_eq_true, if_false]
  have he : (⟨mk2 i, false, (i : Int), (i : Int), false⟩ : En) = ent i := rfl
  rw [he]
  unfold aadd
  rw [rows_len]
  by_cases h : i < rm
  · rw [if_pos (by omega), show i - rm = 0 by omega, show i + 1 - rm = 0 by omega, rows_put (by omega) hi]
  · rw [if_neg (by omega), rows_least (by omega) (by omega)]
    simp only
    rw [show (ent (i - rm)).mac = mk2 (i - rm) from rfl, rows_del (by omega) (by omega), rows_put (by omega) hi, show i - rm + 1 = i + 1 - rm by omega]
theorem rows_find {rm more i : Nat} (hn : rm + more < 255) (hi : i < rm + more) :
    afind 4611686018427387904 (rowsF more (rm + more)) (mk2 i) ((rm + more : Nat) : Int) = if more ≤ i then some ⟨false, i⟩ else none := by
  unfold afind
  by_cases h : more ≤ i
  · have hg : aget (rowsF more (rm + more)) (mk2 i) = some (ent i) := (aget_some (rows_sor (by omega))).2 ⟨mem_rows.2 ⟨i, h, hi, rfl⟩, rfl⟩
    rw [if_pos h, hg]
    have ho : oldE 4611686018427387904 (ent i) ((rm + more : Nat) : Int) = false := by
      unfold oldE ent
      simp only [Bool.not_false, Bool.true_and, decide_eq_false_iff_not]
      omega
    rw [Option.bind_some, ho]
    rfl
  · rw [if_neg h]
    have hg : aget (rowsF more (rm + more)) (mk2 i) = none := by
      rw [aget_none]
      intro x hx
      obtain ⟨j, h1, h2, rfl⟩ := mem_rows.1 hx
      intro h3
      have := mk2_inj (j := j) (k := i) (by omega) (by omega) h3
      omega
    rw [hg]; rfl
theorem i64_mask6 (n : Int) : bits .and .i64 n 63 = n % 64 := by
  have hx : (BitVec.ofInt 64 n &&& BitVec.ofInt 64 63).toNat = (n % 64).toNat := by
    rw [BitVec.toNat_and, BitVec.toNat_ofInt, BitVec.toNat_ofInt]
    rw [show ((63 : Int) % ((2 ^ 64 : Nat) : Int)).toNat = 2 ^ 6 - 1 from by decide, Nat.and_two_pow_sub_one_eq_mod]
    omega
  show IntKind.i64.wrap ((BitVec.ofInt 64 n &&& BitVec.ofInt 64 63).toNat : Int) = _
  rw [hx, IntKind.wrap_i64]
  omega

theorem evM_mk2 {i : Nat} (hi : i < 127) : evM (mk2 i) = .agg #[.int .u8 2, .int .u8 0, .int .u8 0, .int .u8 0, .int .u8 ((i : Int) / 256), .int .u8 (i : Int)] := by
  have h1 : (i : Int) / 256 = 0 := by omega
  have h2 : ((UInt8.ofNat i).toNat : Int) = (i : Int) := by rw [UInt8.toNat_ofNat']; omega
  rw [h1]
  unfold evM mk2 byteV
  rw [h2]
  rfl
set_option maxRecDepth 100000 in
set_option maxHeartbeats 8000000 in
theorem FdbRoom_walk {w : World} (hg : EG w) (room0 more0 : Int) : Calls Tryd.prog 3 #[.int .i64 room0, .int .i64 more0] w (ShownF w) := by
  have HGA := Lib.hid hg
  have m1 := i64_mask6 room0
  have m2 := i64_mask6 more0
  obtain ⟨rm, hrm, hr1, hr2⟩ : ∃ rm : Nat, 1 + room0 % 64 = (rm : Int) ∧ 1 ≤ rm ∧ rm ≤ 64 := ⟨(1 + room0 % 64).toNat, by omega, by omega, by omega⟩
  obtain ⟨mr, hmr, hr3⟩ : ∃ mr : Nat, more0 % 64 = (mr : Int) ∧ mr ≤ 63 := ⟨(more0 % 64).toNat, by omega, by omega⟩
  clear hg
  go_enter Tryd.func3, Tryd.ntmps3
  go_wp2_with fail
  refine (l15shown_any HGA.out).mono ?_
  rintro e w1 ⟨rfl, f1⟩
  have F1 := Lib.hid f1
  clear f1
  go_wp2_with fail
  refine (fbNew_n w1 rm 4611686018427387904 (by omega) (by omega) (r := rm) (by omega)).mono ?_
  rintro e w3 ⟨tb, mb, rfl, h3, f3⟩
  have H3 := Lib.hid h3
  have S2 := Lib.hid F1.out.size
  have F3 := Lib.hid (F1.out.then_no f3)
  clear h3 f3 F1 m1 m2
  obtain ⟨B, hB⟩ : ∃ B, w1.heap.size = B := ⟨_, rfl⟩
  rw [hB] at H3 S2
  clear hB hrm hmr
  go_wp2_with fail
  go_loopw [8] (fun t8 wr => ∃ i : Nat, i ≤ rm + mr ∧ t8 = .int .i64 i ∧ FdN B wr tb mb rm 4611686018427387904 (rowsF (i - rm) i) ∧ Fr No w wr) (fun t8 _ => rm + mr - (intOf t8).toNat)
  case atStart => exact ⟨0, by omega, rfl, by rw [show 0 - rm = 0 by omega]; exact H3.out, F3.out⟩
  case round =>
    clear H3 F3
    obtain ⟨i, hi, rfl, h4, f4⟩ := hrel
    have H4 := Lib.hid h4
    have F4 := Lib.hid f4
    clear h4 f4
    by_cases hlt : i < rm + mr
    · have hli : (i : Int) < (rm : Int) + (mr : Int) := by omega
      have hi127 : i < 127 := by omega
      have hi0 : (0 : Int) ≤ (i : Int) := by omega
      have hib : (i : Int) ≤ 127 := by omega
      go_wp2_with fail
      rw [← evM_mk2 hi127]
      refine (fbLearn_n H4.out (mk2 i) ⟨false, i⟩ (now := i) (by omega) (by omega) ⟨by simp only; omega, by simp only; omega⟩ (rows_learn hr1 (by omega))).mono ?_
      rintro e w5 ⟨rfl, h5, f5, k5⟩
      have H5 := Lib.hid h5
      have F5 := Lib.hid (F4.out.upb S2.out f5)
      clear h5 f5 k5 H4 F4
      go_wp2_with fail
      go_roundw
      case rel => exact ⟨i + 1, by omega, by go_num, H5.out, F5.out⟩
      case measure => simp [intOf]; omega
    · have hie : i = rm + mr := by omega
      subst hie
      have hlo : rm + mr - rm = mr := by omega
      rw [hlo] at H4
      have hns : ¬ ((rm + mr : Nat) : Int) < (rm : Int) + (mr : Int) := by omega
      clear hlo hlt
      go_wp2_with fail
      go_loopw [11] (fun t11 wr2 => ∃ i : Nat, i ≤ rm + mr ∧ t11 = .int .i64 i ∧ FdN B wr2 tb mb rm 4611686018427387904 (rowsF mr (rm + mr)) ∧ Fr No w wr2) (fun t11 _ => rm + mr - (intOf t11).toNat)
      case atStart => exact ⟨0, by omega, rfl, H4.out, F4.out⟩
      case round =>
        clear H4 F4 hns
        obtain ⟨i, hi2, rfl, h4, f4⟩ := hrel
        have H4 := Lib.hid h4
        have F4 := Lib.hid f4
        clear h4 f4
        by_cases hlt : i < rm + mr
        · have hli : (i : Int) < (rm : Int) + (mr : Int) := by omega
          have hi127 : i < 127 := by omega
          have hi0 : (0 : Int) ≤ (i : Int) := by omega
          have hib : (i : Int) ≤ 127 := by omega
          go_wp2_with fail
          rw [← evM_mk2 hi127]
          have hfi := rows_find (rm := rm) (more := mr) (i := i) (by omega) hlt
          rw [Int.natCast_add] at hfi
          have HFI := Lib.hid hfi
          clear hfi
          by_cases hge : mr ≤ i
          · have hfs := HFI.out
            rw [if_pos hge] at hfs
            have hne := neqPl ⟨false, i⟩ ⟨false, i⟩
            simp only [evPL, decide_true, Bool.not_true] at hne
            have hgi : (mr : Int) ≤ (i : Int) := by omega
            refine (fbFind_n H4.out (mk2 i) (now := (rm : Int) + (mr : Int)) (by omega) (by omega) hfs).mono ?_
            rintro e w5 ⟨rfl, f5⟩
            have H5 := Lib.hid (H4.out.no f5)
            have F5 := Lib.hid (F4.out.then_no f5)
            clear f5 H4 F4 hfs
            simp only [Option.getD_some, Option.isSome_some, evPL]
            go_wp2_with fail
            have fz := (Fr.refl No w5).alloc (.cells #[.bool false, .int .i64 i] 33)
            have H6 := Lib.hid (H5.out.no fz)
            have F6 := Lib.hid (F5.out.then_no fz)
            clear fz H5 F5
            go_roundw
            case rel => exact ⟨i + 1, by omega, by go_num, H6.out, F6.out⟩
            case measure => simp [intOf]; omega
          · have hfs := HFI.out
            rw [if_neg hge] at hfs
            have hgi : ¬ (mr : Int) ≤ (i : Int) := by omega
            refine (fbFind_n H4.out (mk2 i) (now := (rm : Int) + (mr : Int)) (by omega) (by omega) hfs).mono ?_
            rintro e w5 ⟨rfl, f5⟩
            have H5 := Lib.hid (H4.out.no f5)
            have F5 := Lib.hid (F4.out.then_no f5)
            clear f5 H4 F4 hfs
            simp only [Option.getD_none, Option.isSome_none, evPL]
            go_wp2_with fail
            have fz := (Fr.refl No w5).alloc (.cells #[.bool false, .int .i64 0] 33)
            have H6 := Lib.hid (H5.out.no fz)
            have F6 := Lib.hid (F5.out.then_no fz)
            clear fz H5 F5
            go_roundw
            case rel => exact ⟨i + 1, by omega, by go_num, H6.out, F6.out⟩
            case measure => simp [intOf]; omega
        · have hie : i = rm + mr := by omega
          subst hie
          have hns : ¬ ((rm + mr : Nat) : Int) < (rm : Int) + (mr : Int) := by omega
          go_wp2_with fail
          refine (fbList_n H4.out).mono ?_
          rintro e w6 ⟨lo, lc, rfl, ho, hln, f6⟩
          have F6 := Lib.hid (F4.out.then_no f6)
          clear f6 ho hln H4 F4
          rw [rows_len, show rm + mr - mr = rm by omega]
          go_wp2_with fail
          go_ret
          exact ⟨rfl, F6.out⟩
end Go.Proofs.YtgmaelndhmnjiaaDoor
