/- geneve: the plain laws, no program in sight. -/
import Derived.Test.YthoppkklooomgaaGen7
namespace Go.Proofs.Ythoppkklooomgaa
open Go.RowKit
set_option linter.unusedVariables false
theorem be_b4' (x : Int) (h0 : 0 ≤ x) (h1 : x < 4294967296) : (be (b4 x) : Int) = x := by
  simp only [b4, be, List.foldl_cons, List.foldl_nil]
  have a := u8_toNat (x / 16777216)
  have b := u8_toNat (x / 65536)
  have c := u8_toNat (x / 256)
  have d := u8_toNat x
  omega
theorem b2_back (c : Nat) (h : c < 65536) : (u8 ((c : Int) / 256)).toNat * 256 + (u8 (c : Int)).toNat = c := by
  have a := u8_toNat ((c : Int) / 256)
  have b := u8_toNat (c : Int)
  omega

theorem gnDec_head (a b : UInt8) (id : Nat) (h : id < 16777216) (r : List UInt8) :
    gnDec (a :: b :: (b2 25944 ++ (b4 ((id : Int) * 256) ++ r))) = if 64 ≤ a.toNat ∨ 128 ≤ b.toNat then .no false 3 else if r.length < 4 * (a.toNat % 64) then .no true 2 else
      match optsOf (r.take (4 * (a.toNat % 64))) with
      | none => .no false 3
      | some os => if gflag (anyCrit os) ≠ bits .and .u8 (b.toNat : Int) 64 then .no false 3 else gnFrame id os (r.drop (4 * (a.toNat % 64))) := by
  have e0 : gnF0 (a :: b :: (b2 25944 ++ (b4 ((id : Int) * 256) ++ r))) = a.toNat := by simp [gnF0, be]
  have e1 : gnF1 (a :: b :: (b2 25944 ++ (b4 ((id : Int) * 256) ++ r))) = b.toNat := by simp [gnF1, be]
  have e2 : gnF2 (a :: b :: (b2 25944 ++ (b4 ((id : Int) * 256) ++ r))) = 25944 := by
    have : gnF2 (a :: b :: (b2 25944 ++ (b4 ((id : Int) * 256) ++ r))) = be (b2 25944) := by simp [gnF2, b2]
    rw [this]; decide +kernel
  have e3 : gnF3 (a :: b :: (b2 25944 ++ (b4 ((id : Int) * 256) ++ r))) / 256 = id := by
    have : gnF3 (a :: b :: (b2 25944 ++ (b4 ((id : Int) * 256) ++ r))) = be (b4 ((id : Int) * 256)) := by simp [gnF3, b2, b4]
    rw [this]
    have := be_b4' ((id : Int) * 256) (by omega) (by omega)
    omega
  have e4 : gnK (a :: b :: (b2 25944 ++ (b4 ((id : Int) * 256) ++ r))) = 4 * (a.toNat % 64) := by unfold gnK; rw [e0]
  have e5 : (a :: b :: (b2 25944 ++ (b4 ((id : Int) * 256) ++ r))).drop 8 = r := by simp [b2, b4]
  have e6 : (a :: b :: (b2 25944 ++ (b4 ((id : Int) * 256) ++ r))).length = 8 + r.length := by simp [b2, b4]; omega
  have e7 : (a :: b :: (b2 25944 ++ (b4 ((id : Int) * 256) ++ r))).drop (8 + 4 * (a.toNat % 64)) = r.drop (4 * (a.toNat % 64)) := by rw [← List.drop_drop, e5]
  unfold gnDec
  rw [e0, e1, e2, e3, e4, e5, e6, e7, if_neg (by omega)]
  by_cases h1 : 64 ≤ a.toNat ∨ 128 ≤ b.toNat
  · rw [if_pos h1, if_pos h1]
  · rw [if_neg h1, if_neg h1, if_neg (by decide)]
    by_cases h2 : r.length < 4 * (a.toNat % 64)
    · rw [if_pos (by omega), if_pos h2]
    · rw [if_neg (by omega), if_neg h2]
      rfl

theorem optsOf_B : ∀ (os : List Opt), (∀ o ∈ os, badO o = false) → (∀ o ∈ os, o.cls < 65536) → optsOf (optsB os) = some os
  | [], _, _ => optsOf_nil
  | o :: os, h, hc => by
    have h1 := h o (List.mem_cons_self)
    have h2 := hc o (List.mem_cons_self)
    simp [badO] at h1
    have ih := optsOf_B os (fun o' ho' => h o' (List.mem_cons_of_mem _ ho')) (fun o' ho' => hc o' (List.mem_cons_of_mem _ ho'))
    have hq : (u8 ((o.b.length : Int) / 4)).toNat = o.b.length / 4 := by
      have := u8_toNat ((o.b.length : Int) / 4)
      omega
    have hl : optsB (o :: os) = u8 ((o.cls : Int) / 256) :: u8 (o.cls : Int) :: o.typ :: u8 ((o.b.length : Int) / 4) :: (o.b ++ optsB os) := by simp [optsB, optB, b2]
    have hn : 4 * (o.b.length / 4 % 32) = o.b.length := by omega
    rw [optsOf_step hl, hq, if_neg (by simp; omega), hn, List.drop_left, List.take_left, ih, b2_back _ h2]
    rfl

theorem gnOut_form (id : Int) (os : List Opt) (fs : List UInt8) : gnOut id os fs = u8 (osum os / 4) :: u8 (gflag (anyCrit os)) :: (b2 25944 ++ (b4 (id * 256) ++ (optsB os ++ fs))) := by simp [gnOut]
theorem gnOut_length (id : Int) (os : List Opt) (fs : List UInt8) : (gnOut id os fs).length = 8 + osum os + fs.length := by
  rw [gnOut_form]; simp [b2, b4, optsB_length]; omega
theorem osum_four : ∀ (os : List Opt), (∀ o ∈ os, badO o = false) → osum os % 4 = 0
  | [], _ => rfl
  | o :: os, h => by
    have h1 := h o (List.mem_cons_self)
    simp [badO] at h1
    have ih := osum_four os (fun o' ho' => h o' (List.mem_cons_of_mem _ ho'))
    simp only [osum]; omega
theorem flag_byte (b : Bool) : (u8 (gflag b)).toNat < 128 ∧ bits .and .u8 ((u8 (gflag b)).toNat : Int) 64 = gflag b := by
  cases b <;> decide +kernel

/-- What was put in comes out, as far as it is there. -/
theorem gnDec_take (id : Nat) (hid : id < 16777216) (os : List Opt) (hr : rightN os = 0) (hc : ∀ o ∈ os, o.cls < 65536) (fs : List UInt8) (n : Nat) (hn : n ≤ 8 + osum os + fs.length) :
    gnDec ((gnOut id os fs).take n) = if n < 8 + osum os then .no true 2 else gnFrame id os (fs.take (n - (8 + osum os))) := by
  obtain ⟨hb, h252⟩ := right_zero hr
  by_cases h8 : n < 8
  · rw [if_pos (by omega)]
    unfold gnDec
    rw [if_pos (by rw [List.length_take]; omega)]
  · have hf : (gnOut id os fs).take n = u8 (osum os / 4) :: u8 (gflag (anyCrit os)) :: (b2 25944 ++ (b4 ((id : Int) * 256) ++ ((optsB os ++ fs).take (n - 8)))) := by
      obtain ⟨m, rfl⟩ : ∃ m, n = m + 8 := ⟨n - 8, by omega⟩
      rw [gnOut_form, show m + 8 - 8 = m by omega]
      simp [b2, b4]
    have hq : (u8 ((osum os : Int) / 4)).toNat = osum os / 4 := by
      have := u8_toNat ((osum os : Int) / 4)
      omega
    have h4 := osum_four os hb
    have hn4 : 4 * (osum os / 4 % 64) = osum os := by omega
    obtain ⟨hfb, hfl⟩ := flag_byte (anyCrit os)
    rw [hf, gnDec_head _ _ _ hid, hq, if_neg (by omega), hn4]
    by_cases hs : n < 8 + osum os
    · rw [if_pos (by rw [List.length_take]; omega), if_pos hs]
    · rw [if_neg (by rw [List.length_take, List.length_append, optsB_length]; omega), if_neg hs]
      have e1 : ((optsB os ++ fs).take (n - 8)).take (osum os) = optsB os := by
        rw [List.take_take, Nat.min_eq_left (by omega), ← optsB_length, List.take_left]
      have e2 : ((optsB os ++ fs).take (n - 8)).drop (osum os) = fs.take (n - (8 + osum os)) := by
        rw [List.drop_take, ← optsB_length, List.drop_left, optsB_length]
        congr 1; omega
      rw [e1, e2, optsOf_B os hb hc]
      simp only []
      rw [if_neg (by rw [hfl]; simp)]

theorem gnDec_out (id : Nat) (hid : id < 16777216) (os : List Opt) (hr : rightN os = 0) (hc : ∀ o ∈ os, o.cls < 65536) (fs : List UInt8) (h1 : 14 ≤ fs.length) (h2 : fs.length ≤ 9000) : gnDec (gnOut id os fs) = .ok id os fs := by
  have h := gnDec_take id hid os hr hc fs (8 + osum os + fs.length) (Nat.le_refl _)
  rw [List.take_of_length_le (by rw [gnOut_length]; exact Nat.le_refl _), if_neg (by omega), List.take_of_length_le (by omega)] at h
  rw [h, gnFrame, if_neg (by omega), if_neg (by omega)]

theorem optsOf_is : ∀ (n : Nat) (l : List UInt8) (os : List Opt), l.length ≤ n → optsOf l = some os → (∀ o ∈ os, badO o = false) ∧ (∀ o ∈ os, o.cls < 65536) ∧ osum os = l.length
  | 0, l, os, hn, h => by
    have hl : l = [] := List.eq_nil_of_length_eq_zero (by omega)
    subst hl
    rw [optsOf_nil] at h
    cases h
    exact ⟨by simp, by simp, rfl⟩
  | n + 1, l, os, hn, h => by
    match l, hn, h with
    | [], _, h =>
      rw [optsOf_nil] at h
      cases h
      exact ⟨by simp, by simp, rfl⟩
    | [_], _, h => simp [optsOf] at h
    | [_, _], _, h => simp [optsOf] at h
    | [_, _, _], _, h => simp [optsOf] at h
    | a :: b :: t :: c :: r, hn, h =>
      rw [optsOf_step rfl] at h
      split at h
      · cases h
      · rename_i hc
        simp only [Option.map_eq_some_iff] at h
        obtain ⟨os', h', rfl⟩ := h
        obtain ⟨i1, i2, i3⟩ := optsOf_is n (r.drop (4 * (c.toNat % 32))) os' (by rw [List.length_drop]; simp at hn; omega) h'
        have hl : (r.take (4 * (c.toNat % 32))).length = 4 * (c.toNat % 32) := by rw [List.length_take]; omega
        have ha := a.toNat_lt
        have hb := b.toNat_lt
        refine ⟨?_, ?_, ?_⟩
        · intro o ho
          rcases List.mem_cons.1 ho with rfl | ho
          · simp only [badO, hl]
            simp; omega
          · exact i1 o ho
        · intro o ho
          rcases List.mem_cons.1 ho with rfl | ho
          · show a.toNat * 256 + b.toNat < 65536
            omega
          · exact i2 o ho
        · simp only [osum, hl, i3, List.length_drop, List.length_cons]
          omega

/-- What comes out is of options that may be put in again. -/
theorem gnDec_is {bs fs : List UInt8} {id : Nat} {os : List Opt} (h : gnDec bs = .ok id os fs) :
    id < 16777216 ∧ rightN os = 0 ∧ (∀ o ∈ os, o.cls < 65536) ∧ 14 ≤ fs.length ∧ fs.length ≤ 9000 ∧ bs.length = 8 + osum os + fs.length ∧ os.length ≤ 63 := by
  unfold gnDec at h
  split at h
  · cases h
  split at h
  · cases h
  split at h
  · cases h
  split at h
  · cases h
  rename_i h8 _ _ hk
  split at h
  · cases h
  rename_i os' ho
  split at h
  · cases h
  unfold gnFrame at h
  split at h
  · cases h
  split at h
  · cases h
  rename_i h1 h2
  simp only [GnRes.ok.injEq] at h
  obtain ⟨rfl, rfl, rfl⟩ := h
  obtain ⟨i1, i2, i3⟩ := optsOf_is _ _ _ (Nat.le_refl _) ho
  have hk2 : gnK bs ≤ 252 := by unfold gnK; omega
  rw [List.length_take, List.length_drop] at i3
  have g3 := gnF3_lt bs
  rw [List.length_drop] at h1 h2
  have hos : osum os' ≤ 252 := by omega
  have hlen : ∀ l : List Opt, 4 * l.length ≤ osum l := by
    intro l
    induction l with
    | nil => simp [osum]
    | cons o l ih => simp only [osum, List.length_cons]; omega
  have := hlen os'
  refine ⟨by omega, ?_, i2, by rw [List.length_drop]; omega, by rw [List.length_drop]; omega, by rw [List.length_drop]; omega, by omega⟩
  unfold rightN
  rw [if_neg, if_neg (by omega)]
  intro hb
  obtain ⟨o, ho', hbo⟩ := List.any_eq_true.1 hb
  rw [i1 o ho'] at hbo
  cases hbo

end Go.Proofs.Ythoppkklooomgaa