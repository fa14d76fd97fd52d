/- TunnelBack: the plain law. -/
import Derived.Test.YthoppkklooomgaaSh14
namespace Go.Proofs.Ythoppkklooomgaa
open Go.RowKit
set_option linter.unusedVariables false
set_option linter.unusedSimpArgs false
def turnT (t : Tn) : Tn := ⟨t.kind, t.pee, t.loc, t.id, 0, t.os, t.os.map codeO, t.sum, t.seq⟩
def AT (t : Tn) (nx : Nat) : TA := ⟨[(0, ⟨t, nx, none⟩)], 1⟩
def BT (t : Tn) (la : Option Nat) : TA := ⟨[(0, ⟨turnT t, 0, la⟩)], 1⟩
theorem right_turn {t : Tn} (h : RightT t) : RightT (turnT t) := by
  obtain ⟨h1, h2, h3, h4, h5, h6⟩ := h
  exact ⟨h2, h1, by simp [turnT], by simp [turnT], h5, h6⟩
theorem ok_turn {t : Tn} (h : t.ok) (hc : ∀ o ∈ t.os, o.cls < 65536) : (turnT t).ok := by
  refine ⟨h.kind, h.pee, h.loc, h.id, by simp [turnT], fun k hk => ?_⟩
  obtain ⟨o, ho, rfl⟩ := List.mem_map.1 hk
  have h1 := hc o ho
  have h2 := o.typ.toNat_lt
  unfold codeO
  omega
theorem add_one {t : Tn} (h : RightT t) : TA.add ⟨[], 0⟩ t = (⟨[(0, ⟨t, 0, none⟩)], 1⟩, 0, 0) := by
  unfold TA.add
  rw [rightT_yes h]
  rfl
theorem add_not {t : Tn} (h : ¬ RightT t) : TA.add ⟨[], 0⟩ t = (⟨[], 0⟩, 0, 1) := by
  unfold TA.add
  rw [rightT_no h]
  rfl
theorem enc_ok (t : Tn) {nx : Nat} (hn : nx < 100) {fs : List UInt8} (hs : sizN fs = 0) : (AT t nx).encap 0 fs = (AT t (nx + 1), .ok (pkT t nx fs)) := by
  unfold TA.encap
  rw [show mget (AT t nx).l 0 = some ⟨t, nx, none⟩ from rfl]
  simp only
  rw [if_pos hs]
  have h1 : (nx + 1) % 4294967296 = nx + 1 := by omega
  unfold nextT
  simp only
  rw [h1]
  rfl
theorem enc_no (t : Tn) (nx : Nat) {fs : List UInt8} (hs : sizN fs ≠ 0) : (AT t nx).encap 0 fs = (AT t nx, .no [tunnelS, layT t.kind] (sizN fs)) := by
  unfold TA.encap
  rw [show mget (AT t nx).l 0 = some ⟨t, nx, none⟩ from rfl]
  simp only
  rw [if_neg hs]
theorem siz_iff (fs : List UInt8) : sizN fs = 0 ↔ 14 ≤ fs.length ∧ fs.length ≤ 9000 := by
  unfold sizN
  by_cases h1 : fs.length < 14
  · simp [h1]; omega
  · by_cases h2 : 9000 < fs.length
    · simp [h1, h2]
    · simp [h1, h2]; omega
theorem vx_out {id : Nat} (hid : id < 16777216) {fs : List UInt8} (h1 : 14 ≤ fs.length) (h2 : fs.length ≤ 9000) : vxDec (vxOut (id : Int) fs) = .ok id fs := by
  unfold vxDec
  have hl := vxOut_length (id : Int) fs
  have hn := vxOut_number (id : Int) fs (by omega) (by omega)
  rw [if_neg (by omega), vxOut_known, if_neg (by simp), if_neg (by omega), if_neg (by omega), vxOut_drop]
  have : be (((vxOut (id : Int) fs).drop 4).take 4) / 256 = id := by omega
  rw [this]
theorem take_pk {t : Tn} (hr : RightT t) (hk : t.ok) (hc : ∀ o ∈ t.os, o.cls < 65536) {nx : Nat} (hn : nx < 100) {fs : List UInt8} (h1 : 14 ≤ fs.length) (h2 : fs.length ≤ 9000) :
    takeP (pkT t nx fs) = .ok t.kind t.id true (if t.kind = 2 then t.os else []) (if t.kind = 3 then t.seq else false) (if t.kind = 3 ∧ t.seq = true then nx else 0) fs := by
  obtain ⟨-, -, -, -, hro, hkd⟩ := hr
  unfold takeP pkT encT
  rcases hkd with ⟨e, ho, hid⟩ | ⟨e, hid⟩ | ⟨e, ho⟩
  · simp only [e]
    simp [vx_out hid h1 h2]
  · simp only [e]
    simp [gnDec_out t.id hid t.os hro hc fs h1 h2]
  · simp only [e]
    have := gDec_out t.sum true t.seq t.id nx hk.id (by omega) fs h1 h2
    simp [this]
theorem none_strange (os os' : List Opt) (h : ∀ o ∈ os', o ∈ os) : os'.any (strange (os.map codeO)) = false := by
  rw [List.any_eq_false]
  intro o ho
  unfold strange hasU
  have : (os.map codeO).contains (codeO o) = true := by
    rw [List.contains_iff_mem]
    exact List.mem_map.2 ⟨o, h o ho, rfl⟩
  rw [this]; simp
theorem acc_up {la : Option Nat} {nx : Nat} (hn : nx < 100) (h : ∀ y, la = some y → y < nx) : acc la nx = true := by
  cases la with
  | none => rfl
  | some y =>
    have := h y rfl
    unfold acc
    have e : (nx + 4294967296 - y) % 4294967296 = nx - y := by omega
    simp [e]; omega
theorem find_turn (t : Tn) (la : Option Nat) : (BT t la).find t.kind t.pee t.loc t.id true = .inl (0, ⟨turnT t, 0, la⟩) := by
  unfold TA.find BT isIt isEnd
  simp [turnT]
theorem back_dec {t : Tn} (hr : RightT t) (hk : t.ok) (hc : ∀ o ∈ t.os, o.cls < 65536) {nx : Nat} (hn : nx < 100) {fs : List UInt8} (h1 : 14 ≤ fs.length) (h2 : fs.length ≤ 9000) {la : Option Nat} (hla : ∀ y, la = some y → y < nx) :
    ∃ la', (∀ y, la' = some y → y < nx + 1) ∧ (BT t la).decap (pkT t nx fs) = (BT t la', .ok 0 fs) := by
  have e0 : (pkT t nx fs).dst = t.pee := rfl
  have e1 : (pkT t nx fs).src = t.loc := rfl
  have hst : (if t.kind = 2 then t.os else []).any (strange (turnT t).ks) = false := by
    show (if t.kind = 2 then t.os else []).any (strange (t.os.map codeO)) = false
    apply none_strange
    intro o ho
    split at ho
    · exact ho
    · cases ho
  unfold TA.decap
  rw [take_pk hr hk hc hn h1 h2]
  simp only
  rw [e0, e1, find_turn]
  simp only
  by_cases hsq : t.kind = 3 ∧ t.seq = true
  · obtain ⟨q1, q2⟩ := hsq
    refine ⟨some nx, fun y hy => (by cases hy; omega), ?_⟩
    have ha := acc_up hn hla
    rw [show (if t.kind = 3 then t.seq else false) = t.seq from if_pos q1, show (if t.kind = 3 ∧ t.seq = true then nx else 0) = nx from if_pos ⟨q1, q2⟩]
    have hb : TE.behind ⟨turnT t, 0, la⟩ (if t.kind = 2 then t.os else []) t.seq nx = ⟨turnT t, 0, some nx⟩ := by
      unfold TE.behind accNext
      simp only
      rw [hst, ha]
      simp [turnT, q2]
    have hx : TE.accepts ⟨turnT t, 0, la⟩ (if t.kind = 2 then t.os else []) t.seq nx = 0 := by
      unfold TE.accepts
      simp only
      rw [hst, ha]
      simp
    rw [hb, hx, if_pos rfl]
    rfl
  · refine ⟨la, fun y hy => (by have := hla y hy; omega), ?_⟩
    have hf : (if t.kind = 3 then t.seq else false) = false := by
      by_cases q1 : t.kind = 3
      · rw [if_pos q1]
        cases hq : t.seq
        · rfl
        · exact absurd ⟨q1, hq⟩ hsq
      · rw [if_neg q1]
    rw [hf]
    have hb : ∀ z, TE.behind ⟨turnT t, 0, la⟩ (if t.kind = 2 then t.os else []) false z = ⟨turnT t, 0, la⟩ := by
      intro z
      unfold TE.behind
      simp only
      rw [hst]
      simp
    have hx : ∀ z, TE.accepts ⟨turnT t, 0, la⟩ (if t.kind = 2 then t.os else []) false z = 0 := by
      intro z
      unfold TE.accepts
      simp only
      rw [hst]
      simp
    rw [hb, hx, if_pos rfl]
    rfl
theorem pk_len {t : Tn} (hr : RightT t) (nx : Nat) {fs : List UInt8} (h2 : fs.length ≤ 9000) : (pkT t nx fs).b.length ≤ 20000 := by
  have := right_zero hr.2.2.2.2.1
  unfold pkT encT
  simp only
  split
  · rw [vxOut_length]; omega
  · split
    · rw [gnOut_length]; omega
    · rw [greOut_length]
      have := greHead_le t.sum true t.seq
      omega
end Go.Proofs.Ythoppkklooomgaa