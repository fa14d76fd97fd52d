/- The reference of layer 12: Decap: what its loop holds. -/
import Derived.Test.YtjbieljlhjfpiaaDoorRef12b
import Derived.Test.YtjbieljlhjfpiaaDoorGen7
import Derived.Test.YtjbieljlhjfpiaaDoorOptRow
import Derived.Lib.ConvBytes
import Derived.Laws.AppendOwn
namespace Go.Proofs.YtjbieljlhjfpiaaDoor
open Go.RowKit
set_option linter.unusedVariables false

theorem bytesW_fr (w : World) (s : ByteArray) : Fr No w (Lib.bytesWorld w 5 s) :=
  ⟨by simp [Lib.bytesWorld, World.freeze]; rfl, by simp [Lib.bytesWorld, World.freeze], by simp [Lib.bytesWorld, World.freeze]; rfl, by rw [Lib.bytesWorld_size]; omega, fun k hk _ => Lib.bytesWorld_at_old w 5 s k hk⟩
theorem bytesW_bs (w : World) (s : ByteArray) (hs : s.size ≤ 10000) : Bs (Lib.bytesWorld w 5 s) (some ⟨w.heap.size, 0, none⟩) s.size (grownCap w s.size 0 5) s.data.toList := by
  refine ⟨by rw [Array.length_toList]; rfl, grownCap_ge _ _ _ _, ?_, fun h => (by cases h), ?_⟩
  · have h1 : s.size ≤ maxLen := by unfold maxLen; omega
    have h2 := grownCap_le_maxLen w s.size 0 5 h1
    unfold maxLen at h2; omega
  · intro a ha j u hu
    cases ha
    have hj : j < s.size := by
      have := (List.getElem?_eq_some_iff.1 hu).1
      rw [bytesV_length, Array.length_toList] at this
      exact this
    rw [Addr.add_lit, Nat.zero_add, Lib.bytesWorld_cell w 5 s j hj]
    rw [← hu]
    have hj' : j < s.data.toList.length := by rw [Array.length_toList]; exact hj
    simp [bytesV, byteV, List.getD, List.getElem?_eq_getElem hj']

/-- A row of options that is made: each one's bytes lie elsewhere. -/
structure Rw (B : Nat) (w : World) (ao : Option Addr) (n cap : Nat) (os : List Opt) (ad : List (Option Addr × Nat)) : Prop where
  len : os.length = n
  adl : ad.length = n
  own : Own w 42 3 ao n cap (optV os ad)
  row : ∀ a, ao = some a → B ≤ a.block
  ob : ∀ (i : Nat) (o : Opt) (p : Option Addr × Nat), os[i]? = some o → ad[i]? = some p → Bs w p.1 o.b.length p.2 o.b ∧ ∀ a, p.1 = some a → a.block < w.heap.size ∧ ∀ x, ao = some x → x.block ≠ a.block
  cls : ∀ o ∈ os, o.cls < 65536
theorem Rw.nil (B : Nat) (w : World) : Rw B w none 0 0 [] [] :=
  ⟨rfl, rfl, Own.nil _ _ _, fun _ h => (by cases h), fun i o p h => (by simp at h), fun _ h => (by simp at h)⟩
theorem Rw.no {B : Nat} {w w' : World} {ao : Option Addr} {n cap : Nat} {os : List Opt} {ad : List (Option Addr × Nat)} (h : Rw B w ao n cap os ad) (hf : Fr No w w') : Rw B w' ao n cap os ad :=
  ⟨h.len, h.adl, h.own.no hf, h.row, fun i o p ho hp => ⟨(h.ob i o p ho hp).1.no hf, fun a ha => ⟨by have := ((h.ob i o p ho hp).2 a ha).1; have := hf.size; omega, ((h.ob i o p ho hp).2 a ha).2⟩⟩, h.cls⟩
theorem Rw.rs {B : Nat} {w : World} {ao : Option Addr} {n cap : Nat} {os : List Opt} {ad : List (Option Addr × Nat)} (h : Rw B w ao n cap os ad) : Rs w ao n cap os :=
  Rs.of_cells h.own.sl h.len h.adl (fun i o p ho hp => (h.ob i o p ho hp).1) h.cls
theorem Rw.snoc {B : Nat} {w w' : World} {ao ao' : Option Addr} {n cap cap' : Nat} {os : List Opt} {ad : List (Option Addr × Nat)} {o : Opt} {pb pc : Nat} (h : Rw B w ao n cap os ad)
    (hb : Bs w (some ⟨pb, 0, none⟩) o.b.length pc o.b) (hlt : pb < w.heap.size) (hne : ∀ x, ao = some x → x.block ≠ pb) (hcl : o.cls < 65536) (hB : B ≤ w.heap.size)
    (hown : Own w' 42 3 ao' (n + 1) cap' (optV os ad ++ [.int .u16 (o.cls : Int), .int .u8 (o.typ.toNat : Int), .slice (some ⟨pb, 0, none⟩) o.b.length pc])) (hf : Fr (At ao) w w') (hd : ao' = ao ∨ ∀ a, ao' = some a → w.heap.size ≤ a.block) :
    Rw B w' ao' (n + 1) cap' (os ++ [o]) (ad ++ [(some ⟨pb, 0, none⟩, pc)]) := by
  have hsz := hf.size
  refine ⟨by simp [h.len], by simp [h.adl], by rw [optV_snoc _ _ _ _ (by rw [h.adl, h.len])]; exact hown, ?_, ?_, ?_⟩
  · intro a ha
    rcases hd with rfl | hd
    · exact h.row a ha
    · exact Nat.le_trans hB (hd a ha)
  · intro i o' p' ho' hp'
    have key : Bs w p'.1 o'.b.length p'.2 o'.b ∧ ∀ a, p'.1 = some a → a.block < w.heap.size ∧ ∀ x, ao = some x → x.block ≠ a.block := by
      by_cases hi : i < n
      · rw [List.getElem?_append_left (by rw [h.len]; exact hi)] at ho'
        rw [List.getElem?_append_left (by rw [h.adl]; exact hi)] at hp'
        exact h.ob i o' p' ho' hp'
      · have hi' : i = n := by
          have := (List.getElem?_eq_some_iff.1 ho').1
          simp [h.len] at this; omega
        subst hi'
        rw [← h.len] at ho'
        simp at ho'
        have hp2 : (ad ++ [(some (⟨pb, 0, none⟩ : Addr), pc)])[ad.length]? = some p' := by rw [h.adl]; exact hp'
        simp at hp2
        subst ho'; subst hp2
        exact ⟨hb, fun a ha => by cases ha; exact ⟨hlt, hne⟩⟩
    refine ⟨key.1.fr hf (fun a ha => ?_), fun a ha => ⟨by have := (key.2 a ha).1; omega, fun x hx => ?_⟩⟩
    · rintro ⟨x, hx, e⟩
      exact (key.2 a ha).2 x hx e
    · rcases hd with rfl | hd
      · exact (key.2 a ha).2 x hx
      · have h1 := hd x hx
        have h2 := (key.2 a ha).1
        omega
  · intro o' ho'
    rcases List.mem_append.1 ho' with h1 | h1
    · exact h.cls o' h1
    · simp at h1; rw [h1]; exact hcl

/-- What the reference's Decap tells. -/
def R12 (w : World) (r : GnRes) (e : Ending) (w' : World) : Prop :=
  match r with
  | .ok id os fs => ∃ ao n cap, e = .returned (.tuple #[.int .u32 (id : Int), .slice ao n cap, .string ⟨fs.toArray⟩, .int .i64 0, .bool false]) ∧ Rs w' ao n cap os ∧ Fr No w w'
  | .no inner code => e = .returned (.tuple #[.int .u32 0, .slice none 0 0, .string ⟨#[]⟩, .int .i64 code, .bool inner]) ∧ Fr No w w'

/-- Eight bytes, and more. -/
theorem eight_head : ∀ (bs : List UInt8), ¬ bs.length < 8 → ∃ a b c d e f g h r, bs = a :: b :: c :: d :: e :: f :: g :: h :: r
  | a :: b :: c :: d :: e :: f :: g :: h :: r, _ => ⟨a, b, c, d, e, f, g, h, r, rfl⟩
  | [], h => absurd (by simp) h
  | [_], h => absurd (by simp) h
  | [_, _], h => absurd (by simp) h
  | [_, _, _], h => absurd (by simp) h
  | [_, _, _, _], h => absurd (by simp) h
  | [_, _, _, _, _], h => absurd (by simp) h
  | [_, _, _, _, _, _], h => absurd (by simp) h
  | [_, _, _, _, _, _, _], h => absurd (by simp) h
theorem and64 (k : Nat) (h : k < 128) : bits .and .u8 (k : Int) 64 = if k / 64 % 2 = 1 then 64 else 0 := by
  have : ∀ k : Nat, k < 128 → bits .and .u8 (k : Int) 64 = if k / 64 % 2 = 1 then 64 else 0 := by decide +kernel
  exact this k h
theorem gnDec_at {a b c d e f g h : UInt8} {r bs : List UInt8} (hb : bs = a :: b :: c :: d :: e :: f :: g :: h :: r) :
    gnDec bs = if 64 ≤ a.toNat ∨ 128 ≤ b.toNat then .no false 3 else if ¬ (c.toNat = 101 ∧ d.toNat = 88) then .no false 12 else
      if bs.length < 8 + 4 * (a.toNat % 64) then .no true 2 else
      match optsOf ((bs.drop 8).take (4 * (a.toNat % 64))) with
      | none => .no false 3
      | some os => if anyCrit os ≠ decide (b.toNat / 64 % 2 = 1) then .no false 3 else gnFrame (be ((bs.drop 4).take 3)) os (bs.drop (8 + 4 * (a.toNat % 64))) := by
  have ha := a.toNat_lt
  have hbb := b.toNat_lt
  have hc := c.toNat_lt
  have hd := d.toNat_lt
  have e0 : gnF0 bs = a.toNat := by rw [hb]; simp [gnF0, be]
  have e1 : gnF1 bs = b.toNat := by rw [hb]; simp [gnF1, be]
  have e2 : gnF2 bs = c.toNat * 256 + d.toNat := by rw [hb]; simp [gnF2, be]
  have e3 : gnF3 bs / 256 = be ((bs.drop 4).take 3) := by
    have := h.toNat_lt
    rw [hb]; simp [gnF3, be]; omega
  have el : ¬ bs.length < 8 := by rw [hb]; simp
  unfold gnDec gnK
  rw [if_neg el, e0, e1, e2, e3]
  by_cases h1 : 64 ≤ a.toNat ∨ 128 ≤ b.toNat
  · simp only [eq_true h1, if_true]
  · simp only [eq_false h1, if_false]
    by_cases h2 : c.toNat = 101 ∧ d.toNat = 88
    · have h2' : ¬ (c.toNat * 256 + d.toNat ≠ 25944) := by omega
      simp only [eq_false h2', eq_true h2, not_true_eq_false, if_false]
      split
      · rfl
      · cases optsOf ((bs.drop 8).take (4 * (a.toNat % 64))) with
        | none => rfl
        | some os =>
          simp only
          rw [and64 _ (by omega)]
          have hk : (gflag (anyCrit os) ≠ if b.toNat / 64 % 2 = 1 then 64 else 0) ↔ anyCrit os ≠ decide (b.toNat / 64 % 2 = 1) := by
            cases anyCrit os <;> by_cases hq : b.toNat / 64 % 2 = 1 <;> simp [gflag, hq]
          simp only [hk]
    · have h2' : c.toNat * 256 + d.toNat ≠ 25944 := by omega
      simp only [eq_true h2', eq_false h2, not_false_eq_true, if_true]

end Go.Proofs.YtjbieljlhjfpiaaDoor
