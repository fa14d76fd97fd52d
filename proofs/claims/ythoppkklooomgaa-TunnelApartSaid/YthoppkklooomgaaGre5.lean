/- gre: the plain laws, no program in sight. -/
import Derived.Test.YthoppkklooomgaaGre3
import Derived.Test.YthoppkklooomgaaVx
namespace Go.Proofs.Ythoppkklooomgaa
open Go.RowKit
set_option linter.unusedVariables false
/-- Bytes whose first four are a header's. -/
theorem gDec_head {s k q : Bool} {l : List UInt8} (h : l.take 4 = b2 (flags s k q) ++ b2 25944) :
    gDec l = match hdrOf s k q (l.drop 4) with
      | none => .no true 2
      | some (key, seq, r) => if s = true ∧ sumS l ≠ 0 then .no false 4 else gSize s k key q seq r := by
  have h4 : ¬ l.length < 4 := by
    have := congrArg List.length h
    simp [b2] at this; omega
  have e1 : (bits .and .u32 (fl l) 20479 != 0) = false := by unfold fl; rw [h]; cases s <;> cases k <;> cases q <;> decide +kernel
  have e2 : (bits .and .u32 (be (l.take 4) : Int) 65535 != 25944) = false := by rw [h]; cases s <;> cases k <;> cases q <;> decide +kernel
  have e3 : fS l = s := by unfold fS fl; rw [h]; cases s <;> cases k <;> cases q <;> decide +kernel
  have e4 : fK l = k := by unfold fK fl; rw [h]; cases s <;> cases k <;> cases q <;> decide +kernel
  have e5 : fQ l = q := by unfold fQ fl; rw [h]; cases s <;> cases k <;> cases q <;> decide +kernel
  unfold gDec gHdr
  rw [if_neg h4, e1, e2, e3, e4, e5]
  rfl

theorem wsum_append (x y : List UInt8) : ∀ b, wsum b (x ++ y) = wsum b x + wsum (hiAt b x.length) y := by
  induction x with
  | nil => intro b; cases b <;> simp [wsum, hiAt]
  | cons c x ih => intro b; cases b <;> simp only [List.cons_append, wsum, List.length_cons, hiAt, ih] <;> simp <;> omega
theorem wsum_set (l : List UInt8) : ∀ (b : Bool) (i : Nat) (c : UInt8) (h : i < l.length), wsum b (l.set i c) + l[i].toNat * (if hiAt b i then 256 else 1) = wsum b l + c.toNat * (if hiAt b i then 256 else 1) := by
  induction l with
  | nil => intro b i c h; simp at h
  | cons x l ih =>
    intro b i c h
    cases i with
    | zero => cases b <;> simp [wsum, hiAt] <;> omega
    | succ i =>
      have := ih (!b) i c (by simpa using h)
      cases b <;> simp [wsum, hiAt] at this ⊢ <;> omega
theorem sumS_zero (l : List UInt8) : sumS l = 0 ↔ 0 < wsum true l ∧ wsum true l % 65535 = 0 := by
  rw [← fold_top]
  have := fold_lt (wsum true l)
  unfold sumS; omega

/-- What gre.Encap writes, the sum's two bytes by name. -/
def gWire (s k : Bool) (key : Int) (q : Bool) (seq : Int) (a b : UInt8) (fs : List UInt8) : List UInt8 :=
  b2 (flags s k q) ++ b2 25944 ++ (opt s [a, b, 0, 0] ++ (opt k (b4 key) ++ (opt q (b4 seq) ++ fs)))
theorem greBase_wire (s k : Bool) (key : Int) (q : Bool) (seq : Int) (fs : List UInt8) : greBase s k key q seq fs = gWire s k key q seq 0 0 fs := by
  have e : b4 0 = [0, 0, 0, 0] := by decide
  unfold greBase gWire
  rw [e]
  simp
theorem summed_wire (k : Bool) (key : Int) (q : Bool) (seq : Int) (fs : List UInt8) (x y : UInt8) : ((gWire true k key q seq 0 0 fs).set 4 x).set 5 y = gWire true k key q seq x y fs := by
  simp [gWire, b2, opt]
theorem wire_drop (s k : Bool) (key : Int) (q : Bool) (seq : Int) (a b : UInt8) (fs : List UInt8) : (gWire s k key q seq a b fs).drop 4 = opt s [a, b, 0, 0] ++ (opt k (b4 key) ++ (opt q (b4 seq) ++ fs)) := by
  simp [gWire, b2]
theorem wire_take (s k : Bool) (key : Int) (q : Bool) (seq : Int) (a b : UInt8) (fs : List UInt8) : (gWire s k key q seq a b fs).take 4 = b2 (flags s k q) ++ b2 25944 := by
  simp [gWire, b2]
theorem wire_sum (k : Bool) (key : Int) (q : Bool) (seq : Int) (a b : UInt8) (fs : List UInt8) : wsum true (gWire true k key q seq a b fs) = wsum true (gWire true k key q seq 0 0 fs) + (a.toNat * 256 + b.toNat) := by
  simp only [gWire, b2, opt, if_true, List.cons_append, List.nil_append, wsum, UInt8.toNat_zero]; omega
theorem wire_pos (k : Bool) (key : Int) (q : Bool) (seq : Int) (a b : UInt8) (fs : List UInt8) : 0 < wsum true (gWire true k key q seq a b fs) := by
  have h : 0 < (u8 (flags true k q / 256)).toNat := by cases k <;> cases q <;> decide +kernel
  simp only [gWire, b2, List.cons_append, wsum]
  omega

theorem greOut_wire (s k : Bool) (key : Int) (q : Bool) (seq : Int) (fs : List UInt8) : ∃ a b, greOut s k key q seq fs = gWire s k key q seq a b fs ∧ (s = true → sumS (greOut s k key q seq fs) = 0) := by
  cases s with
  | false => exact ⟨0, 0, by simp [greOut, greBase_wire], by simp⟩
  | true =>
    refine ⟨u8 ((sumS (greBase true k key q seq fs) : Int) / 256), u8 (sumS (greBase true k key q seq fs)), ?_, fun _ => ?_⟩
    · simp only [greOut, if_true, summed, greBase_wire, summed_wire]
    · simp only [greOut, if_true, summed, greBase_wire, summed_wire]
      rw [sumS_zero]
      refine ⟨wire_pos _ _ _ _ _ _ _, ?_⟩
      rw [wire_sum]
      have h1 := u8_toNat ((sumS (gWire true k key q seq 0 0 fs) : Int) / 256)
      have h2 := u8_toNat ((sumS (gWire true k key q seq 0 0 fs) : Int))
      have h3 := fold_lt (wsum true (gWire true k key q seq 0 0 fs))
      have h4 := fold_mod (wsum true (gWire true k key q seq 0 0 fs))
      have h5 : sumS (gWire true k key q seq 0 0 fs) = 65535 - fold (wsum true (gWire true k key q seq 0 0 fs)) := rfl
      generalize wsum true (gWire true k key q seq 0 0 fs) = W at *
      generalize sumS (gWire true k key q seq 0 0 fs) = S at *
      generalize (u8 ((S : Int) / 256)).toNat = A at *
      generalize (u8 (S : Int)).toNat = B at *
      have h6 : A * 256 + B = S := by omega
      rw [h6, h5]
      generalize fold W = X at *
      omega

theorem fieldS_cons (a b c d : UInt8) (r : List UInt8) : fieldS true (a :: b :: c :: d :: r) = some (be [a, b, c, d], r) := by
  unfold fieldS
  rw [if_pos rfl, if_neg (by simp)]
  rfl
theorem fieldS_false (r : List UInt8) : fieldS false r = some (0, r) := rfl
theorem hdrOf_wire (s k q : Bool) (key seq : Nat) (hk : key < 4294967296) (hq : seq < 4294967296) (a b : UInt8) (fs : List UInt8) :
    hdrOf s k q (opt s [a, b, 0, 0] ++ (opt k (b4 key) ++ (opt q (b4 seq) ++ fs))) = some (if k then key else 0, if q then seq else 0, fs) := by
  have e1 : be (b4 key) = key := by have := be_b4 key (by omega) (by omega); omega
  have e2 : be (b4 seq) = seq := by have := be_b4 seq (by omega) (by omega); omega
  have h1 : ∀ (v : Nat), be (b4 v) = be [u8 ((v : Int) / 16777216), u8 ((v : Int) / 65536), u8 ((v : Int) / 256), u8 (v : Int)] := fun _ => rfl
  rw [h1] at e1 e2
  cases s <;> cases k <;> cases q <;> simp [hdrOf, fieldS_cons, fieldS_false, opt, b4, e1, e2]

/-- What was put in comes out. -/
theorem gDec_out (s k q : Bool) (key seq : Nat) (hk : key < 4294967296) (hq : seq < 4294967296) (fs : List UInt8) (h1 : 14 ≤ fs.length) (h2 : fs.length ≤ 9000) :
    gDec (greOut s k key q seq fs) = .ok s k (if k then key else 0) q (if q then seq else 0) fs := by
  obtain ⟨a, b, e, hs⟩ := greOut_wire s k key q seq fs
  rw [gDec_head (s := s) (k := k) (q := q) (by rw [e, wire_take])]
  rw [show (greOut s k key q seq fs).drop 4 = _ from by rw [e, wire_drop], hdrOf_wire s k q key seq hk hq]
  simp only
  rw [if_neg (by rintro ⟨x, y⟩; exact y (hs x)), gSize, if_neg (by omega), if_neg (by omega)]

theorem fieldS_none {is : Bool} {m : List UInt8} (h : fieldS is m = none) : is = true ∧ m.length < 4 := by
  cases is
  · cases h
  · unfold fieldS at h
    by_cases h4 : m.length < 4
    · exact ⟨rfl, h4⟩
    · simp [h4] at h
theorem fieldS_some {is : Bool} {m r : List UInt8} {v : Nat} (h : fieldS is m = some (v, r)) : r = m.drop (if is then 4 else 0) ∧ (if is then 4 else 0) ≤ m.length ∧ v < 4294967296 ∧ (is = false → v = 0) := by
  cases is
  · simp [fieldS] at h
    simp [← h.1, ← h.2]
  · unfold fieldS at h
    by_cases h4 : m.length < 4
    · simp [h4] at h
    · simp [h4] at h
      obtain ⟨rfl, rfl⟩ := h
      refine ⟨rfl, by simp; omega, ?_, by simp⟩
      have h1 := be_lt (m.take 4)
      have h2 : (m.take 4).length ≤ 4 := List.length_take_le _ _
      have h3 : 256 ^ (m.take 4).length ≤ 256 ^ 4 := Nat.pow_le_pow_right (by omega) h2
      omega
theorem hdrOf_is {s k q : Bool} {m r : List UInt8} {x y : Nat} (h : hdrOf s k q m = some (x, y, r)) :
    r = m.drop (greHead s k q - 4) ∧ greHead s k q ≤ m.length + 4 ∧ x < 4294967296 ∧ y < 4294967296 ∧ (k = false → x = 0) ∧ (q = false → y = 0) := by
  unfold hdrOf at h
  cases f1 : fieldS s m with
  | none => simp [f1] at h
  | some p =>
    obtain ⟨v0, r0⟩ := p
    simp only [f1] at h
    cases f2 : fieldS k r0 with
    | none => simp [f2] at h
    | some p =>
      obtain ⟨key', r1⟩ := p
      simp only [f2] at h
      cases f3 : fieldS q r1 with
      | none => simp [f3] at h
      | some p =>
        obtain ⟨seq', r2⟩ := p
        simp only [f3, Option.some.injEq, Prod.mk.injEq] at h
        obtain ⟨rfl, rfl, rfl⟩ := h
        obtain ⟨a1, a2, a3, a4⟩ := fieldS_some f1
        obtain ⟨b1, b2, b3, b4⟩ := fieldS_some f2
        obtain ⟨c1, c2, c3, c4⟩ := fieldS_some f3
        refine ⟨?_, ?_, b3, c3, b4, c4⟩
        · rw [c1, b1, a1, List.drop_drop, List.drop_drop]; congr 1; unfold greHead; omega
        · rw [b1, a1] at c2; rw [a1] at b2; simp only [List.length_drop] at b2 c2; unfold greHead; omega
theorem hdrOf_some {s k q : Bool} {m : List UInt8} (h : greHead s k q ≤ m.length + 4) : ∃ x y r, hdrOf s k q m = some (x, y, r) := by
  unfold greHead at h
  unfold hdrOf
  cases f1 : fieldS s m with
  | none => obtain ⟨rfl, h2⟩ := fieldS_none f1; simp at h; omega
  | some p =>
    obtain ⟨v0, r0⟩ := p
    obtain ⟨a1, a2, a3, a4⟩ := fieldS_some f1
    have a5 := congrArg List.length a1
    rw [List.length_drop] at a5
    simp only
    cases f2 : fieldS k r0 with
    | none => obtain ⟨rfl, h2⟩ := fieldS_none f2; simp at h; omega
    | some p =>
      obtain ⟨key', r1⟩ := p
      obtain ⟨b1, b2, b3, b4⟩ := fieldS_some f2
      have b5 := congrArg List.length b1
      rw [List.length_drop] at b5
      simp only
      cases f3 : fieldS q r1 with
      | none => obtain ⟨rfl, h2⟩ := fieldS_none f3; simp at h; omega
      | some p => exact ⟨_, _, _, rfl⟩

/-- What is cut off. -/
theorem gDec_cut (k q : Bool) (key seq : Nat) (fs : List UInt8) (h9 : fs.length ≤ 9000) (n : Nat) (hn : n ≤ greHead false k q + fs.length) {l : List UInt8} (hl : l = (greOut false k key q seq fs).take n) :
    (n < greHead false k q + 14 → ∃ inner, gDec l = .no inner 2) ∧ (greHead false k q + 14 ≤ n → ∃ x y, gDec l = .ok false k x q y (fs.take (n - greHead false k q))) := by
  have hout : greOut false k key q seq fs = gWire false k key q seq 0 0 fs := by simp [greOut, greBase_wire]
  have hlen : l.length = n := by rw [hl, List.length_take, greOut_length]; omega
  have hH := greHead_le false k q
  by_cases h4 : n < 4
  · refine ⟨fun _ => ⟨true, ?_⟩, fun h => by omega⟩
    unfold gDec; rw [if_pos (by omega)]
  · have ht : l.take 4 = b2 (flags false k q) ++ b2 25944 := by
      rw [hl, List.take_take, Nat.min_eq_left (by omega), hout, wire_take]
    rw [gDec_head ht]
    cases hh : hdrOf false k q (l.drop 4) with
    | none =>
      refine ⟨fun _ => ⟨true, rfl⟩, fun h => ?_⟩
      obtain ⟨x, y, r, hs⟩ := hdrOf_some (s := false) (k := k) (q := q) (m := l.drop 4) (by simp; omega)
      rw [hs] at hh; cases hh
    | some p =>
      obtain ⟨x, y, r⟩ := p
      obtain ⟨a1, a2, -⟩ := hdrOf_is hh
      have hr : r = fs.take (n - greHead false k q) := by
        rw [a1, List.drop_drop, hl, List.drop_take]
        congr 1
        · omega
        · rw [hout]
          cases k <;> cases q <;> simp [gWire, greHead, opt, b2, b4]
      have hrl : r.length = n - greHead false k q := by rw [hr, List.length_take]; omega
      have e : (if false = true ∧ sumS l ≠ 0 then GRes.no false 4 else gSize false k x q y r) = gSize false k x q y r := by simp
      simp only [e]
      refine ⟨fun h => ⟨false, ?_⟩, fun h => ⟨x, y, ?_⟩⟩
      · rw [gSize, if_pos (by omega)]
      · rw [gSize, if_neg (by omega), if_neg (by omega), hr]

/-- What comes out is of a header that may be put in again. -/
theorem gDec_is {bs fs : List UInt8} {s k q : Bool} {key seq : Nat} (h : gDec bs = .ok s k key q seq fs) :
    key < 4294967296 ∧ seq < 4294967296 ∧ (k = false → key = 0) ∧ (q = false → seq = 0) ∧ 14 ≤ fs.length ∧ fs.length ≤ 9000 ∧ bs.length = greHead s k q + fs.length := by
  unfold gDec at h
  split at h
  · cases h
  split at h
  · cases h
  split at h
  · cases h
  cases hh : gHdr bs with
  | none => rw [hh] at h; cases h
  | some p =>
    obtain ⟨x, y, r⟩ := p
    rw [hh] at h
    simp only at h
    split at h
    · cases h
    unfold gSize at h
    split at h
    · cases h
    split at h
    · cases h
    cases h
    obtain ⟨a1, a2, a3, a4, a5, a6⟩ := hdrOf_is hh
    have a7 := congrArg List.length a1
    simp only [List.length_drop] at a7 a2
    have hH := greHead_le (fS bs) (fK bs) (fQ bs)
    exact ⟨a3, a4, a5, a6, by omega, by omega, by omega⟩

/-- One byte that is another one, behind the first four: the sum tells. -/
theorem gDec_sums (k q : Bool) (key seq : Nat) (hk : key < 4294967296) (hq : seq < 4294967296) (fs : List UInt8) (at' : Nat) (h4 : 4 ≤ at') (c : UInt8) {l : List UInt8} (hl : l = greOut true k key q seq fs) (hat : at' < l.length) (hc : c ≠ l[at']) :
    gDec (l.set at' c) = .no false 4 := by
  obtain ⟨a, b, e, hs⟩ := greOut_wire true k key q seq fs
  have ht : (l.set at' c).take 4 = b2 (flags true k q) ++ b2 25944 := by
    rw [List.take_set_of_le h4, hl, e, wire_take]
  rw [gDec_head (s := true) (k := k) (q := q) ht]
  have hh : ∃ x y r, hdrOf true k q ((l.set at' c).drop 4) = some (x, y, r) := by
    refine hdrOf_some ?_
    simp only [List.length_drop, List.length_set, hl, greOut_length]
    omega
  obtain ⟨x, y, r, hh⟩ := hh
  rw [hh]
  simp only
  rw [if_pos]
  refine ⟨True.intro, ?_⟩
  rw [Ne, sumS_zero]
  rintro ⟨_, h⟩
  have h0 := (sumS_zero l).1 (by rw [hl]; exact hs rfl)
  have hw := wsum_set l true at' c hat
  have hx : c.toNat ≠ (l[at']).toNat := fun h => hc (UInt8.toNat_inj.1 h)
  have b1 := c.toNat_lt
  have b2 := (l[at']).toNat_lt
  generalize wsum true (l.set at' c) = A at *
  generalize wsum true l = B at *
  generalize (l[at']).toNat = X at *
  generalize c.toNat = Y at *
  split at hw <;> omega

end Go.Proofs.Ythoppkklooomgaa