/- geneve: read. -/
import Derived.Test.YthoppkklooomgaaGen1
import Derived.Test.YthoppkklooomgaaGre2
namespace Go.Proofs.Ythoppkklooomgaa
open Go.RowKit
set_option linter.unusedVariables false
theorem cells4 {w : World} {b t : Nat} {c0 c1 c2 c3 : Value} (h : w.heap[b]? = some (.cells #[c0, c1, c2, c3] t (0, 0))) :
    w.cell? ⟨b, 0, none⟩ = some c0 ∧ w.cell? ⟨b, 1, none⟩ = some c1 ∧ w.cell? ⟨b, 2, none⟩ = some c2 ∧ w.cell? ⟨b, 3, none⟩ = some c3 :=
  ⟨cell_of_row w b 0 _ t (0, 0) h, cell_of_row w b 1 _ t (0, 0) h, cell_of_row w b 2 _ t (0, 0) h, cell_of_row w b 3 _ t (0, 0) h⟩
theorem free_row {w : World} {b t : Nat} {cs : Array Value} (h : w.heap[b]? = some (.cells cs t (0, 0))) (k : Nat) : w.frozen? ⟨b, k, none⟩ = false := by
  exact frozen_of_row w b _ cs t h
theorem Fr.set4 {S : Nat → Prop} {a w : World} (h : Fr S a w) {b : Nat} (hb : S b ∨ a.heap.size ≤ b) (v0 v1 v2 v3 : Value) :
    Fr S a ((((w.setCell ⟨b, 0, none⟩ v0).setCell ⟨b, 1, none⟩ v1).setCell ⟨b, 2, none⟩ v2).setCell ⟨b, 3, none⟩ v3) :=
  ((((h.setCell (p := ⟨b, 0, none⟩) hb _).setCell (p := ⟨b, 1, none⟩) hb _).setCell (p := ⟨b, 2, none⟩) hb _).setCell (p := ⟨b, 3, none⟩) hb _)
/-- An error is as it was where another block than its own is written. -/
theorem Err.beside {w w' : World} {v : Value} {ls : List ByteArray} {n : Int} (h : Err w v ls n) {b t : Nat} {cs : Array Value} (hb : w.heap[b]? = some (.cells cs t (0, 0))) (ht : t ≠ 109) (hf : Fr (Is b) w w') : Err w' v ls n := by
  induction h with
  | num n => exact .num n
  | @wrap b' s v ls n h hv ih => exact .wrap (hf.heap h (by rintro rfl; rw [hb] at h; simp at h; exact ht h.2)) ih

/-- In the midst of 'read': what is left, and what is read. -/
structure Rh (S : Nat → Prop) (w w' : World) (rb h : Nat) (v0 v1 v2 v3 : Value) (bs : List UInt8) : Prop where
  rd : Rd S w' rb bs
  row : w'.heap[h]? = some (.cells #[v0, v1, v2, v3] 143 (0, 0))
  fr : Fr (Is rb) w w'
  new : w.heap.size ≤ h
  ne : h ≠ rb
  old : ∀ i, S i → i < w.heap.size
theorem Rh.step {S : Nat → Prop} {w w1 w2 : World} {rb h : Nat} {v0 v1 v2 v3 : Value} {bs bs' : List UInt8} (H : Rh S w w1 rb h v0 v1 v2 v3 bs) (hr : Rd S w2 rb bs') (hf : Fr (Is rb) w1 w2) : Rh S w w2 rb h v0 v1 v2 v3 bs' :=
  ⟨hr, hf.heap H.row H.ne, H.fr.trans hf, H.new, H.ne, H.old⟩
theorem Rh.set {S : Nat → Prop} {w w1 : World} {rb h : Nat} {v0 v1 v2 v3 u0 u1 u2 u3 : Value} {bs : List UInt8} (H : Rh S w w1 rb h v0 v1 v2 v3 bs) (i : Nat) (u : Value) (hc : #[v0, v1, v2, v3].setIfInBounds i u = #[u0, u1, u2, u3]) :
    Rh S w (w1.setCell ⟨h, i, none⟩ u) rb h u0 u1 u2 u3 bs :=
  ⟨H.rd.fr (Fr.setCell (Fr.refl (Is h) w1) (p := ⟨h, i, none⟩) (.inl rfl) u) (fun k hk e => by have := H.old k hk; have := H.new; simp only [Is] at e; omega),
    set_row H.row i u hc, H.fr.setCell (p := ⟨h, i, none⟩) (.inr H.new) u, H.new, H.ne, H.old⟩

def gnF0 (bs : List UInt8) : Nat := be (bs.take 1)
def gnF1 (bs : List UInt8) : Nat := be ((bs.drop 1).take 1)
def gnF2 (bs : List UInt8) : Nat := be ((bs.drop 2).take 2)
def gnF3 (bs : List UInt8) : Nat := be ((bs.drop 4).take 4)
def GhOk (S : Nat → Prop) (w : World) (rb : Nat) (bs : List UInt8) (e : Ending) (w' : World) : Prop :=
  e = .returned (.tuple #[.agg #[.int .u8 (gnF0 bs), .int .u8 (gnF1 bs), .int .u16 (gnF2 bs), .int .u32 (gnF3 bs)], .nilIface]) ∧ Rd S w' rb (bs.drop 8) ∧ Fr (Is rb) w w'
def GhNo (w : World) (rb : Nat) (e : Ending) (w' : World) : Prop :=
  ∃ (v0 v1 v2 v3 : Int) (b : Nat), e = .returned (.tuple #[.agg #[.int .u8 v0, .int .u8 v1, .int .u16 v2, .int .u32 v3], .iface 107 (.pointer (some ⟨b, 0, none⟩))]) ∧
    Err w' (.iface 107 (.pointer (some ⟨b, 0, none⟩))) [octetsS] 2 ∧ Fr (Is rb) w w'

set_option maxHeartbeats 1600000 in
set_option maxRecDepth 100000 in
theorem gnRead_ok {S : Nat → Prop} {w : World} {rb : Nat} {bs : List UInt8} (h : Rd S w rb bs) (hS : ∀ i, S i → i < w.heap.size) (hn : 8 ≤ bs.length) : Calls Try.prog 59 #[.pointer (some ⟨rb, 0, none⟩)] w (GhOk S w rb bs) := by
  have H := Lib.hid h
  have hrb : w.heap.size ≠ rb := by obtain ⟨_, _, _, _, _, _, h4, _⟩ := h; have := hS _ h4; omega
  have HR := Lib.hid hrb
  have HS := Lib.hid hS
  clear h hrb hS
  go_enter Try.func59, Try.ntmps59
  go_wp2_with fail
  have X0 : Hid (Rh S w (w.alloc (.cells #[.int .u8 0, .int .u8 0, .int .u16 0, .int .u32 0] 143)) rb w.heap.size (.int .u8 0) (.int .u8 0) (.int .u16 0) (.int .u32 0) bs) :=
    Lib.hid ⟨H.out.no ((Fr.refl No w).alloc _), heap_alloc_new w _, (Fr.refl (Is rb) w).alloc _, Nat.le_refl _, HR.out, HS.out⟩
  generalize w.alloc (.cells #[.int .u8 0, .int .u8 0, .int .u16 0, .int .u32 0] 143) = w0 at *
  refine (rU8_ok X0.out.rd (by omega)).mono ?_
  rintro e w1 ⟨he, r1, f1⟩
  replace he : e = .returned (.tuple #[.int .u8 (gnF0 bs), .nilIface]) := he
  subst he
  have X1 := Lib.hid (X0.out.step r1 f1)
  clear X0 r1 f1
  obtain ⟨c0, c1, c2, c3⟩ := cells4 X1.out.row
  have z := free_row X1.out.row 0
  go_wp2_with fail
  have X2 := Lib.hid (X1.out.set 0 (.int .u8 (gnF0 bs)) rfl)
  generalize w1.setCell ⟨w.heap.size, 0, none⟩ (.int .u8 (gnF0 bs)) = w2 at *
  clear X1 c0 c1 c2 c3 z
  refine (rU8_ok X2.out.rd (by rw [List.length_drop]; omega)).mono ?_
  rintro e w3 ⟨he, r1, f1⟩
  replace he : e = .returned (.tuple #[.int .u8 (gnF1 bs), .nilIface]) := he
  subst he
  replace r1 : Rd S w3 rb (bs.drop 2) := by rw [List.drop_drop] at r1; exact r1
  have X3 := Lib.hid (X2.out.step r1 f1)
  clear X2 r1 f1
  obtain ⟨c0, c1, c2, c3⟩ := cells4 X3.out.row
  have z := free_row X3.out.row 1
  go_wp2_with fail
  have X4 := Lib.hid (X3.out.set 1 (.int .u8 (gnF1 bs)) rfl)
  generalize w3.setCell ⟨w.heap.size, 1, none⟩ (.int .u8 (gnF1 bs)) = w4 at *
  clear X3 c0 c1 c2 c3 z
  refine (rU16_ok X4.out.rd (by rw [List.length_drop]; omega)).mono ?_
  rintro e w5 ⟨he, r1, f1⟩
  replace he : e = .returned (.tuple #[.int .u16 (gnF2 bs), .nilIface]) := he
  subst he
  replace r1 : Rd S w5 rb (bs.drop 4) := by rw [List.drop_drop] at r1; exact r1
  have X5 := Lib.hid (X4.out.step r1 f1)
  clear X4 r1 f1
  obtain ⟨c0, c1, c2, c3⟩ := cells4 X5.out.row
  have z := free_row X5.out.row 2
  go_wp2_with fail
  have X6 := Lib.hid (X5.out.set 2 (.int .u16 (gnF2 bs)) rfl)
  generalize w5.setCell ⟨w.heap.size, 2, none⟩ (.int .u16 (gnF2 bs)) = w6 at *
  clear X5 c0 c1 c2 c3 z
  refine (rU32_ok X6.out.rd (by rw [List.length_drop]; omega)).mono ?_
  rintro e w7 ⟨he, r1, f1⟩
  replace he : e = .returned (.tuple #[.int .u32 (gnF3 bs), .nilIface]) := he
  subst he
  replace r1 : Rd S w7 rb (bs.drop 8) := by rw [List.drop_drop] at r1; exact r1
  have X7 := Lib.hid (X6.out.step r1 f1)
  clear X6 r1 f1
  obtain ⟨c0, c1, c2, c3⟩ := cells4 X7.out.row
  have z0 := free_row X7.out.row 0
  have z1 := free_row X7.out.row 1
  have z2 := free_row X7.out.row 2
  have z3 := free_row X7.out.row 3
  go_wp2_with fail
  have X8 := Lib.hid (X7.out.set 3 (.int .u32 (gnF3 bs)) rfl)
  clear X7 c0 c1 c2 c3 z0 z1 z2 z3
  generalize w7.setCell ⟨w.heap.size, 3, none⟩ (.int .u32 (gnF3 bs)) = w8 at *
  obtain ⟨c0, c1, c2, c3⟩ := cells4 X8.out.row
  refine bodyPost_ret (v := .tuple #[.agg #[.int .u8 (gnF0 bs), .int .u8 (gnF1 bs), .int .u16 (gnF2 bs), .int .u32 (gnF3 bs)], .nilIface]) (by simp [results, Try.results59, go_sem, c0, c1, c2, c3]) rfl ?_
  refine ⟨rfl, ?_, X8.out.fr.set4 (.inr (Nat.le_refl _)) _ _ _ _⟩
  exact X8.out.rd.fr (Fr.set4 (Fr.refl (Is w.heap.size) _) (.inl rfl) _ _ _ _) (fun k hk e => by have := HS.out k hk; simp only [Is] at e; omega)

set_option maxHeartbeats 1600000 in
set_option maxRecDepth 100000 in
theorem gnRead_no {S : Nat → Prop} {w : World} {rb : Nat} {bs : List UInt8} (h : Rd S w rb bs) (hS : ∀ i, S i → i < w.heap.size) (hn : bs.length < 8) : Calls Try.prog 59 #[.pointer (some ⟨rb, 0, none⟩)] w (GhNo w rb) := by
  have H := Lib.hid h
  have hrb : w.heap.size ≠ rb := by obtain ⟨_, _, _, _, _, _, h4, _⟩ := h; have := hS _ h4; omega
  have HR := Lib.hid hrb
  have HS := Lib.hid hS
  clear h hrb hS
  go_enter Try.func59, Try.ntmps59
  go_wp2_with fail
  have X0 : Hid (Rh S w (w.alloc (.cells #[.int .u8 0, .int .u8 0, .int .u16 0, .int .u32 0] 143)) rb w.heap.size (.int .u8 0) (.int .u8 0) (.int .u16 0) (.int .u32 0) bs) :=
    Lib.hid ⟨H.out.no ((Fr.refl No w).alloc _), heap_alloc_new w _, (Fr.refl (Is rb) w).alloc _, Nat.le_refl _, HR.out, HS.out⟩
  generalize w.alloc (.cells #[.int .u8 0, .int .u8 0, .int .u16 0, .int .u32 0] 143) = w0 at *
  by_cases hl0 : bs.length < 1
  · refine (rU8_no X0.out.rd (by omega)).mono ?_
    rintro e w1 ⟨b, rfl, he, f1⟩
    have X1 := Lib.hid (X0.out.step (X0.out.rd.no f1) (f1.of_no))
    have HE := Lib.hid he
    clear X0 he f1
    obtain ⟨c0, c1, c2, c3⟩ := cells4 X1.out.row
    have z0 := free_row X1.out.row 0
    have z1 := free_row X1.out.row 1
    have z2 := free_row X1.out.row 2
    have z3 := free_row X1.out.row 3
    go_wp2_with fail
    have HE2 := Lib.hid (HE.out.beside X1.out.row (by decide) (Fr.setCell (Fr.refl (Is w.heap.size) _) (p := ⟨w.heap.size, 0, none⟩) (.inl rfl) (.int .u8 0)))
    have X2 := Lib.hid (X1.out.set 0 (.int .u8 0) rfl)
    clear HE X1 c0 c1 c2 c3 z0 z1 z2 z3
    generalize w1.setCell ⟨w.heap.size, 0, none⟩ (.int .u8 0) = w2 at *
    obtain ⟨c0, c1, c2, c3⟩ := cells4 X2.out.row
    refine bodyPost_ret (v := .tuple #[.agg #[.int .u8 0, .int .u8 0, .int .u16 0, .int .u32 0], .iface 107 (.pointer (some ⟨b, 0, none⟩))]) (by simp [results, Try.results59, go_sem, c0, c1, c2, c3]) rfl ?_
    exact ⟨_, _, _, _, b, rfl, HE2.out.beside X2.out.row (by decide) (Fr.set4 (Fr.refl (Is w.heap.size) _) (.inl rfl) _ _ _ _), X2.out.fr.set4 (.inr (Nat.le_refl _)) _ _ _ _⟩
  refine (rU8_ok X0.out.rd (by omega)).mono ?_
  rintro e w1 ⟨he, r1, f1⟩
  replace he : e = .returned (.tuple #[.int .u8 (gnF0 bs), .nilIface]) := he
  subst he
  have X1 := Lib.hid (X0.out.step r1 f1)
  clear X0 r1 f1
  obtain ⟨c0, c1, c2, c3⟩ := cells4 X1.out.row
  have z := free_row X1.out.row 0
  go_wp2_with fail
  have X2 := Lib.hid (X1.out.set 0 (.int .u8 (gnF0 bs)) rfl)
  generalize w1.setCell ⟨w.heap.size, 0, none⟩ (.int .u8 (gnF0 bs)) = w2 at *
  clear X1 c0 c1 c2 c3 z
  by_cases hl1 : bs.length < 2
  · refine (rU8_no X2.out.rd (by rw [List.length_drop]; omega)).mono ?_
    rintro e w3 ⟨b, rfl, he, f1⟩
    have X3 := Lib.hid (X2.out.step (X2.out.rd.no f1) (f1.of_no))
    have HE := Lib.hid he
    clear X2 he f1
    obtain ⟨c0, c1, c2, c3⟩ := cells4 X3.out.row
    have z0 := free_row X3.out.row 0
    have z1 := free_row X3.out.row 1
    have z2 := free_row X3.out.row 2
    have z3 := free_row X3.out.row 3
    go_wp2_with fail
    have HE2 := Lib.hid (HE.out.beside X3.out.row (by decide) (Fr.setCell (Fr.refl (Is w.heap.size) _) (p := ⟨w.heap.size, 1, none⟩) (.inl rfl) (.int .u8 0)))
    have X4 := Lib.hid (X3.out.set 1 (.int .u8 0) rfl)
    clear HE X3 c0 c1 c2 c3 z0 z1 z2 z3
    generalize w3.setCell ⟨w.heap.size, 1, none⟩ (.int .u8 0) = w4 at *
    obtain ⟨c0, c1, c2, c3⟩ := cells4 X4.out.row
    refine bodyPost_ret (v := .tuple #[.agg #[.int .u8 (gnF0 bs), .int .u8 0, .int .u16 0, .int .u32 0], .iface 107 (.pointer (some ⟨b, 0, none⟩))]) (by simp [results, Try.results59, go_sem, c0, c1, c2, c3]) rfl ?_
    exact ⟨_, _, _, _, b, rfl, HE2.out.beside X4.out.row (by decide) (Fr.set4 (Fr.refl (Is w.heap.size) _) (.inl rfl) _ _ _ _), X4.out.fr.set4 (.inr (Nat.le_refl _)) _ _ _ _⟩
  refine (rU8_ok X2.out.rd (by rw [List.length_drop]; omega)).mono ?_
  rintro e w3 ⟨he, r1, f1⟩
  replace he : e = .returned (.tuple #[.int .u8 (gnF1 bs), .nilIface]) := he
  subst he
  replace r1 : Rd S w3 rb (bs.drop 2) := by rw [List.drop_drop] at r1; exact r1
  have X3 := Lib.hid (X2.out.step r1 f1)
  clear X2 r1 f1
  obtain ⟨c0, c1, c2, c3⟩ := cells4 X3.out.row
  have z := free_row X3.out.row 1
  go_wp2_with fail
  have X4 := Lib.hid (X3.out.set 1 (.int .u8 (gnF1 bs)) rfl)
  generalize w3.setCell ⟨w.heap.size, 1, none⟩ (.int .u8 (gnF1 bs)) = w4 at *
  clear X3 c0 c1 c2 c3 z
  by_cases hl2 : bs.length < 4
  · refine (rU16_no X4.out.rd (by rw [List.length_drop]; omega)).mono ?_
    rintro e w5 ⟨b, rfl, he, f1⟩
    have X5 := Lib.hid (X4.out.step (X4.out.rd.no f1) (f1.of_no))
    have HE := Lib.hid he
    clear X4 he f1
    obtain ⟨c0, c1, c2, c3⟩ := cells4 X5.out.row
    have z0 := free_row X5.out.row 0
    have z1 := free_row X5.out.row 1
    have z2 := free_row X5.out.row 2
    have z3 := free_row X5.out.row 3
    go_wp2_with fail
    have HE2 := Lib.hid (HE.out.beside X5.out.row (by decide) (Fr.setCell (Fr.refl (Is w.heap.size) _) (p := ⟨w.heap.size, 2, none⟩) (.inl rfl) (.int .u16 0)))
    have X6 := Lib.hid (X5.out.set 2 (.int .u16 0) rfl)
    clear HE X5 c0 c1 c2 c3 z0 z1 z2 z3
    generalize w5.setCell ⟨w.heap.size, 2, none⟩ (.int .u16 0) = w6 at *
    obtain ⟨c0, c1, c2, c3⟩ := cells4 X6.out.row
    refine bodyPost_ret (v := .tuple #[.agg #[.int .u8 (gnF0 bs), .int .u8 (gnF1 bs), .int .u16 0, .int .u32 0], .iface 107 (.pointer (some ⟨b, 0, none⟩))]) (by simp [results, Try.results59, go_sem, c0, c1, c2, c3]) rfl ?_
    exact ⟨_, _, _, _, b, rfl, HE2.out.beside X6.out.row (by decide) (Fr.set4 (Fr.refl (Is w.heap.size) _) (.inl rfl) _ _ _ _), X6.out.fr.set4 (.inr (Nat.le_refl _)) _ _ _ _⟩
  refine (rU16_ok X4.out.rd (by rw [List.length_drop]; omega)).mono ?_
  rintro e w5 ⟨he, r1, f1⟩
  replace he : e = .returned (.tuple #[.int .u16 (gnF2 bs), .nilIface]) := he
  subst he
  replace r1 : Rd S w5 rb (bs.drop 4) := by rw [List.drop_drop] at r1; exact r1
  have X5 := Lib.hid (X4.out.step r1 f1)
  clear X4 r1 f1
  obtain ⟨c0, c1, c2, c3⟩ := cells4 X5.out.row
  have z := free_row X5.out.row 2
  go_wp2_with fail
  have X6 := Lib.hid (X5.out.set 2 (.int .u16 (gnF2 bs)) rfl)
  generalize w5.setCell ⟨w.heap.size, 2, none⟩ (.int .u16 (gnF2 bs)) = w6 at *
  clear X5 c0 c1 c2 c3 z
  · skip
    refine (rU32_no X6.out.rd (by rw [List.length_drop]; omega)).mono ?_
    rintro e w7 ⟨b, rfl, he, f1⟩
    have X7 := Lib.hid (X6.out.step (X6.out.rd.no f1) (f1.of_no))
    have HE := Lib.hid he
    clear X6 he f1
    obtain ⟨c0, c1, c2, c3⟩ := cells4 X7.out.row
    have z0 := free_row X7.out.row 0
    have z1 := free_row X7.out.row 1
    have z2 := free_row X7.out.row 2
    have z3 := free_row X7.out.row 3
    go_wp2_with fail
    have HE2 := Lib.hid (HE.out.beside X7.out.row (by decide) (Fr.setCell (Fr.refl (Is w.heap.size) _) (p := ⟨w.heap.size, 3, none⟩) (.inl rfl) (.int .u32 0)))
    have X8 := Lib.hid (X7.out.set 3 (.int .u32 0) rfl)
    clear HE X7 c0 c1 c2 c3 z0 z1 z2 z3
    generalize w7.setCell ⟨w.heap.size, 3, none⟩ (.int .u32 0) = w8 at *
    obtain ⟨c0, c1, c2, c3⟩ := cells4 X8.out.row
    refine bodyPost_ret (v := .tuple #[.agg #[.int .u8 (gnF0 bs), .int .u8 (gnF1 bs), .int .u16 (gnF2 bs), .int .u32 0], .iface 107 (.pointer (some ⟨b, 0, none⟩))]) (by simp [results, Try.results59, go_sem, c0, c1, c2, c3]) rfl ?_
    exact ⟨_, _, _, _, b, rfl, HE2.out.beside X8.out.row (by decide) (Fr.set4 (Fr.refl (Is w.heap.size) _) (.inl rfl) _ _ _ _), X8.out.fr.set4 (.inr (Nat.le_refl _)) _ _ _ _⟩

end Go.Proofs.Ythoppkklooomgaa