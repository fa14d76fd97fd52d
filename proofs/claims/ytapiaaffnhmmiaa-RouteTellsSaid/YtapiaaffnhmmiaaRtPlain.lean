/- route: plain laws. -/
import Derived.Test.YtapiaaffnhmmiaaRt3
import Derived.Test.YtapiaaffnhmmiaaRt4
import Derived.Test.YtapiaaffnhmmiaaCutLaw
namespace Go.Proofs.Ytapiaaffnhmmiaa
open Go.RowKit
set_option linter.unusedVariables false
set_option linter.unusedSimpArgs false

abbrev RL := List ((Int × Int) × Rt)
theorem findN_none {l : RL} {ip : Int} : ∀ {n : Nat}, findN l ip n = none ↔ ∀ k < n, mget l (cutN ip k, (k : Int)) = none
  | 0 => by simp [findN]
  | n + 1 => by
    unfold findN
    cases h : mget l (cutN ip n, (n : Int)) with
    | some r =>
      simp only [reduceCtorEq, false_iff]
      intro hh
      have := hh n (by omega)
      rw [h] at this; cases this
    | none =>
      simp only
      rw [findN_none]
      constructor
      · intro hh k hk
        rcases Nat.lt_or_ge k n with h1 | h1
        · exact hh k h1
        · obtain rfl : k = n := by omega
          exact h
      · intro hh k hk; exact hh k (by omega)
theorem findN_some {l : RL} {ip : Int} {r : Rt} : ∀ {n : Nat}, findN l ip n = some r ↔ ∃ k < n, mget l (cutN ip k, (k : Int)) = some r ∧ ∀ j, k < j → j < n → mget l (cutN ip j, (j : Int)) = none
  | 0 => by simp [findN]
  | n + 1 => by
    unfold findN
    cases h : mget l (cutN ip n, (n : Int)) with
    | some r' =>
      simp only [Option.some.injEq]
      constructor
      · rintro rfl
        exact ⟨n, by omega, h, fun j h1 h2 => by omega⟩
      · rintro ⟨k, hk, h1, h2⟩
        rcases Nat.lt_or_ge k n with h3 | h3
        · have := h2 n h3 (by omega)
          rw [h] at this; cases this
        · obtain rfl : k = n := by omega
          rw [h] at h1; exact Option.some.inj h1
    | none =>
      simp only
      rw [findN_some]
      constructor
      · rintro ⟨k, hk, h1, h2⟩
        refine ⟨k, by omega, h1, fun j h3 h4 => ?_⟩
        rcases Nat.lt_or_ge j n with h5 | h5
        · exact h2 j h3 h5
        · obtain rfl : j = n := by omega
          exact h
      · rintro ⟨k, hk, h1, h2⟩
        rcases Nat.lt_or_ge k n with h3 | h3
        · exact ⟨k, h3, h1, fun j h4 h5 => h2 j h4 (by omega)⟩
        · obtain rfl : k = n := by omega
          rw [h] at h1; cases h1

/-- What every table's entries are. -/
structure Good (l : RL) : Prop where
  nd : (l.map (·.1)).Nodup
  key : ∀ p ∈ l, p.1 = (p.2.dst, p.2.bits)
  bits : ∀ p ∈ l, 0 ≤ p.2.bits ∧ p.2.bits ≤ 32
  cut : ∀ p ∈ l, cutN p.2.dst p.2.bits = p.2.dst
  ok : ∀ p ∈ l, p.2.ok
  len : l.length ≤ 64
theorem Good.nil : Good [] := ⟨by simp, by simp, by simp, by simp, by simp, by simp⟩
theorem addCode_zero {l : RL} {r : Rt} (h : addCode l r = 0) : (0 ≤ r.bits ∧ r.bits ≤ 32) ∧ cutN r.dst r.bits = r.dst ∧ ¬ ((mget l (r.dst, r.bits)).isSome = false ∧ 64 ≤ l.length) := by
  unfold addCode at h
  split at h
  · cases h
  · rename_i h1
    split at h
    · cases h
    · rename_i h2
      refine ⟨⟨by omega, by omega⟩, ?_, h2⟩
      exact Classical.byContradiction fun h3 => h1 (.inr (.inr h3))
theorem Good.add {l : RL} (g : Good l) (r : Rt) (hr : r.ok) : Good (addTo l r) := by
  unfold addTo
  split
  · rename_i h
    obtain ⟨hb, hc, hl⟩ := addCode_zero h
    have hmem : ∀ p ∈ mput l (r.dst, r.bits) r, p = ((r.dst, r.bits), r) ∨ p ∈ l := fun p hp => (mem_mput.1 hp).imp id (fun h => h.1)
    refine ⟨mput_nodup g.nd _ _, ?_, ?_, ?_, ?_, ?_⟩
    · intro p hp; rcases hmem p hp with rfl | h; rfl; exact g.key p h
    · intro p hp; rcases hmem p hp with rfl | h; exact hb; exact g.bits p h
    · intro p hp; rcases hmem p hp with rfl | h; exact hc; exact g.cut p h
    · intro p hp; rcases hmem p hp with rfl | h; exact hr; exact g.ok p h
    · rw [mput_length]
      have := g.len
      split
      · exact this
      · rename_i h1
        have : ¬ 64 ≤ l.length := fun h2 => hl ⟨by simpa using h1, h2⟩
        omega
  · exact g
theorem Good.del {l : RL} (g : Good l) (k : Int × Int) : Good (mdel l k) :=
  ⟨mdel_nodup g.nd k, fun p hp => g.key p (mem_mdel.1 hp).1, fun p hp => g.bits p (mem_mdel.1 hp).1, fun p hp => g.cut p (mem_mdel.1 hp).1, fun p hp => g.ok p (mem_mdel.1 hp).1, Nat.le_trans (mdel_length_le l k) g.len⟩
theorem Good.get {l : RL} (g : Good l) {k : Int × Int} {r : Rt} (h : mget l k = some r) : k = (r.dst, r.bits) ∧ r ∈ l.map (·.2) :=
  ⟨g.key _ (mget_some h), List.mem_map.2 ⟨_, mget_some h, rfl⟩⟩
theorem Good.mem {l : RL} (g : Good l) {r : Rt} (h : r ∈ l.map (·.2)) : mget l (r.dst, r.bits) = some r := by
  obtain ⟨p, hp, rfl⟩ := List.mem_map.1 h
  obtain ⟨k, r⟩ := p
  have := g.key _ hp
  simp only at this
  subst this
  exact mget_of_mem g.nd hp
/-- A route that covers an address. -/
def cov (ip : Int) (r : Rt) : Prop := cutN ip r.bits = r.dst
theorem Good.find_some {l : RL} (g : Good l) {ip : Int} {r : Rt} : findN l ip 33 = some r ↔ r ∈ l.map (·.2) ∧ cov ip r ∧ ∀ r' ∈ l.map (·.2), cov ip r' → r'.bits ≤ r.bits := by
  rw [findN_some]
  constructor
  · rintro ⟨k, hk, h1, h2⟩
    obtain ⟨hk1, hm⟩ := g.get h1
    simp only [Prod.mk.injEq] at hk1
    refine ⟨hm, ?_, fun r' hr' hc => ?_⟩
    · unfold cov; rw [← hk1.2]; exact hk1.1
    · apply Classical.byContradiction
      intro hlt
      obtain ⟨p, hp, rfl⟩ := List.mem_map.1 hr'
      have hb := g.bits p hp
      have h3 := h2 p.2.bits.toNat (by omega) (by omega)
      have h4 := g.mem hr'
      unfold cov at hc
      rw [show ((p.2.bits.toNat : Nat) : Int) = p.2.bits by omega, hc, h4] at h3
      cases h3
  · rintro ⟨hm, hc, hmax⟩
    obtain ⟨p, hp, rfl⟩ := List.mem_map.1 hm
    have hb := g.bits p hp
    have e : ((p.2.bits.toNat : Nat) : Int) = p.2.bits := by omega
    refine ⟨p.2.bits.toNat, by omega, ?_, fun j h1 h2 => ?_⟩
    · rw [e]; unfold cov at hc; rw [hc]; exact g.mem hm
    · cases h : mget l (cutN ip j, (j : Int)) with
      | none => rfl
      | some r' =>
        obtain ⟨hk1, hm'⟩ := g.get h
        simp only [Prod.mk.injEq] at hk1
        have := hmax r' hm' (by unfold cov; rw [← hk1.2]; exact hk1.1)
        omega
theorem Good.find_none {l : RL} (g : Good l) {ip : Int} : findN l ip 33 = none ↔ ∀ r' ∈ l.map (·.2), ¬ cov ip r' := by
  rw [findN_none]
  constructor
  · intro h r' hr' hc
    obtain ⟨p, hp, rfl⟩ := List.mem_map.1 hr'
    have hb := g.bits p hp
    have h3 := h p.2.bits.toNat (by omega)
    unfold cov at hc
    rw [show ((p.2.bits.toNat : Nat) : Int) = p.2.bits by omega, hc, g.mem hr'] at h3
    cases h3
  · intro h k hk
    cases hh : mget l (cutN ip k, (k : Int)) with
    | none => rfl
    | some r' =>
      obtain ⟨hk1, hm'⟩ := g.get hh
      simp only [Prod.mk.injEq] at hk1
      exact absurd (show cov ip r' by unfold cov; rw [← hk1.2]; exact hk1.1) (h r' hm')
theorem Good.ndvals {l : RL} (g : Good l) : (l.map (·.2)).Nodup := by
  have h := g.nd
  rw [List.nodup_iff_pairwise_ne, List.pairwise_map] at h ⊢
  refine h.imp_of_mem (fun {a b} ha hb hne e => hne ?_)
  rw [g.key a ha, g.key b hb, e]
end Go.Proofs.Ytapiaaffnhmmiaa
