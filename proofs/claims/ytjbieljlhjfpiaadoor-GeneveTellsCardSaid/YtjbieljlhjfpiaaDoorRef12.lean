/- The reference of layer 12: Critical, some, Right. -/
import Derived.Test.YtjbieljlhjfpiaaDoorRef11
import Derived.Test.YtjbieljlhjfpiaaDoorGen3
namespace Go.Proofs.YtjbieljlhjfpiaaDoor
open Go.RowKit
set_option linter.unusedVariables false

theorem ref12Critical_any {w : World} (c : Int) (t : UInt8) (a : Option Addr) (n k : Nat) : Calls Tryd.prog 13 #[.agg #[.int .u16 c, .int .u8 t.toNat, .slice a n k]] w (CritOk w (crit t)) := by
  have F0 := Lib.hid ((Fr.refl No w).alloc (.cells #[.int .u16 c, .int .u8 t.toNat, .slice a n k] 42))
  by_cases h : 128 ≤ t.toNat
  · have hc : crit t = true := decide_eq_true h
    have hi : (128 : Int) ≤ (t.toNat : Int) := by omega
    rw [hc]
    go_enter Tryd.func13, Tryd.ntmps13
    go_wp2_with fail
    go_ret
    exact ⟨rfl, F0.out⟩
  · have hc : crit t = false := decide_eq_false h
    have hi : ¬ (128 : Int) ≤ (t.toNat : Int) := by omega
    rw [hc]
    go_enter Tryd.func13, Tryd.ntmps13
    go_wp2_with fail
    go_ret
    exact ⟨by simp, F0.out⟩

theorem ref12some_any {w : World} {ao : Option Addr} {n cap : Nat} {os : List Opt} (h : Rs w ao n cap os) : Calls Tryd.prog 29 #[.slice ao n cap] w fun e w' => e = .returned (.bool (anyCrit os)) ∧ w = w' := by
  have hle := h.le
  have hcc := h.capLe
  have H := Lib.hid h
  have hn := h.len
  have HN := Lib.hid hn
  clear h hn
  go_enter Tryd.func29, Tryd.ntmps29
  go_wp2_with fail
  go_loopw [3] (fun t wr => ∃ k : Nat, t = .int .i64 k ∧ k ≤ n ∧ (∀ i o, i < k → os[i]? = some o → crit o.typ = false) ∧ wr = w) (fun t _ => n - (intOf t).toNat)
  case atStart => exact ⟨0, rfl, by omega, by omega, rfl⟩
  case round =>
    obtain ⟨k, rfl, hk, hno, rfl⟩ := hrel
    have NO := Lib.hid hno
    clear hno
    by_cases hlt : k < n
    · obtain ⟨a, o, rfl, ho, ⟨bo, bc, h1, h2, h3, h4⟩, hcl⟩ := H.out.get k hlt
      have HO := Lib.hid ho
      clear h4 ho h1 h3
      by_cases hc : 128 ≤ o.typ.toNat
      · have hcr : crit o.typ = true := decide_eq_true hc
        have hi : (128 : Int) ≤ (o.typ.toNat : Int) := by omega
        have HA := Lib.hid (anyCrit_found HO.out hcr)
        clear hcr
        go_wp2_with fail
        go_ret
        exact ⟨by rw [HA.out]; rfl, rfl⟩
      · have hcr : crit o.typ = false := decide_eq_false hc
        have hi : ¬ (128 : Int) ≤ (o.typ.toNat : Int) := by omega
        have HC := Lib.hid hcr
        clear hcr
        go_wp2_with fail
        go_roundw
        case rel =>
          refine ⟨k + 1, by go_num, by omega, fun i o' hi' ho' => ?_, by first | rfl | trivial⟩
          rcases Nat.lt_or_ge i k with h | h
          · exact NO.out i o' h ho'
          · obtain rfl : i = k := by omega
            rw [HO.out] at ho'; cases ho'; exact HC.out
        case measure => simp [intOf]; omega
    · have HA := Lib.hid (anyCrit_none (k := k) (by rw [← HN.out]; omega) NO.out)
      go_wp2_with fail
      go_ret
      exact ⟨by rw [HA.out]; rfl, rfl⟩

theorem ref12Right_any {w : World} {ao : Option Addr} {n cap : Nat} {os : List Opt} (h : Rs w ao n cap os) (hn : n ≤ 1000) : Calls Tryd.prog 17 #[.slice ao n cap] w fun e w' => e = .returned (.int .i64 (rightN os)) ∧ w = w' := by
  have hle := h.le
  have hcc := h.capLe
  have H := Lib.hid h
  have hN := h.len
  have HN := Lib.hid hN
  clear h hN
  go_enter Tryd.func17, Tryd.ntmps17
  go_wp2_with fail
  go_loopw [3, 4] (fun t3 t wr => ∃ k : Nat, t = .int .i64 k ∧ k ≤ n ∧ t3 = .int .i64 (min (osum (os.take k)) 1000 : Nat) ∧ (∀ o ∈ os.take k, badO o = false) ∧ wr = w) (fun _ t _ => n - (intOf t).toNat)
  case atStart => exact ⟨0, rfl, by omega, rfl, by simp, rfl⟩
  case round =>
    obtain ⟨k, rfl, hk, rfl, hno, rfl⟩ := hrel
    have NO := Lib.hid hno
    clear hno
    obtain ⟨S, hS⟩ : ∃ S, S = osum (os.take k) := ⟨_, rfl⟩
    rw [← hS]
    have HS := Lib.hid hS
    clear hS
    obtain ⟨Z, hZ⟩ : ∃ Z, Z = min S 1000 := ⟨_, rfl⟩
    rw [← hZ]
    have hz1 : Z ≤ 1000 := by omega
    have HZ := Lib.hid hZ
    clear hZ
    by_cases hlt : k < n
    · obtain ⟨a, o, rfl, ho, ⟨bo, bc, h1, h2, h3, h4⟩, hcl⟩ := H.out.get k hlt
      have hbc := h4.2.le
      have hbc2 := h4.2.capLe
      have HO := Lib.hid ho
      clear h4 ho h1 h2
      by_cases hm : o.b.length % 4 = 0
      · have hmi : ((o.b.length : Nat) : Int) % 4 = 0 := by omega
        by_cases hm2 : 124 < o.b.length
        · have hb : badO o = true := by simp [badO, hm2]
          have hr : rightN os = 1 := by unfold rightN; rw [if_pos (List.any_eq_true.2 ⟨o, List.mem_of_getElem? HO.out, hb⟩)]
          have HR := Lib.hid hr
          clear hb hr
          go_wp2_with fail
          go_ret
          exact ⟨by rw [HR.out]; rfl, rfl⟩
        · have hb : badO o = false := by simp [badO, hm]; omega
          have HB := Lib.hid hb
          clear hb
          go_wp2_with fail
          go_roundw
          all_goals first
            | (refine ⟨k + 1, by go_num, by omega, ?_, ?_, by first | rfl | trivial⟩
               · rw [take_snoc HO.out, osum_snoc, ← HS.out]; congr 1; have := HZ.out; omega
               · intro o' ho'
                 rw [take_snoc HO.out, List.mem_append] at ho'
                 rcases ho' with h | h
                 · exact NO.out o' h
                 · simp at h; rw [h]; exact HB.out)
            | (simp [intOf]; omega)
      · have hmi : ¬ ((o.b.length : Nat) : Int) % 4 = 0 := by omega
        have hb : badO o = true := by simp [badO, hm]
        have hr : rightN os = 1 := by unfold rightN; rw [if_pos (List.any_eq_true.2 ⟨o, List.mem_of_getElem? HO.out, hb⟩)]
        have HR := Lib.hid hr
        clear hb hr
        go_wp2_with fail
        all_goals go_ret
        all_goals exact ⟨by rw [HR.out]; rfl, rfl⟩
    · have hall : os.take k = os := List.take_of_length_le (by rw [← HN.out]; omega)
      have ha : os.any badO = false := by
        apply Bool.eq_false_iff.2
        intro hc
        obtain ⟨o, ho, hb⟩ := List.any_eq_true.1 hc
        have := NO.out o (by rw [hall]; exact ho)
        rw [this] at hb; cases hb
      have HS2 := HS.out
      rw [hall] at HS2
      by_cases h252 : 252 < S
      · have hr : rightN os = 7 := by unfold rightN; rw [if_neg (by rw [ha]; decide), if_pos (by omega)]
        have hz : (252 : Int) < (Z : Int) := by have := HZ.out; omega
        have HR := Lib.hid hr
        clear hr ha HS2 hall
        go_wp2_with fail
        go_ret
        exact ⟨by rw [HR.out]; rfl, rfl⟩
      · have hr : rightN os = 0 := by unfold rightN; rw [if_neg (by rw [ha]; decide), if_neg (by omega)]
        have hz : ¬ (252 : Int) < (Z : Int) := by have := HZ.out; omega
        have HR := Lib.hid hr
        clear hr ha HS2 hall
        go_wp2_with fail
        go_ret
        exact ⟨by rw [HR.out]; rfl, rfl⟩

end Go.Proofs.YtjbieljlhjfpiaaDoor
