/- gre: header, decap. -/
import Derived.Test.YthoppkklooomgaaGre
namespace Go.Proofs.Ythoppkklooomgaa
open Go.RowKit
set_option linter.unusedVariables false
/-- A field that may be there. -/
def fieldS (is : Bool) (bs : List UInt8) : Option (Nat × List UInt8) := if is then (if bs.length < 4 then none else some (be (bs.take 4), bs.drop 4)) else some (0, bs)

def FieldOk (S : Nat → Prop) (w : World) (rb : Nat) (v : Nat) (r : List UInt8) (e : Ending) (w' : World) : Prop :=
  e = .returned (.tuple #[.int .u32 v, .nilIface]) ∧ Rd S w' rb r ∧ Fr (Is rb) w w'
theorem field_ok {S : Nat → Prop} {w : World} {rb : Nat} {bs r : List UInt8} {is : Bool} {v : Nat} (h : Rd S w rb bs) (hs : fieldS is bs = some (v, r)) :
    Calls Try.prog 75 #[.pointer (some ⟨rb, 0, none⟩), .bool is] w (FieldOk S w rb v r) := by
  cases is
  · simp only [fieldS] at hs
    have hv : 0 = v ∧ bs = r := by simpa using hs
    obtain ⟨rfl, rfl⟩ := hv
    clear hs
    have H := Lib.hid h
    clear h
    go_enter Try.func75, Try.ntmps75
    go_wp2
    go_ret2
    exact ⟨rfl, H.out, Fr.refl _ _⟩
  · by_cases hl : bs.length < 4
    · simp [fieldS, hl] at hs
    · have hv : be (bs.take 4) = v ∧ bs.drop 4 = r := by simpa [fieldS, hl] using hs
      obtain ⟨rfl, rfl⟩ := hv
      clear hs
      have H := Lib.hid h
      clear h
      go_enter Try.func75, Try.ntmps75
      go_wp2_with (go_at_call 57; refine (rU32_ok H.out (by omega)).mono ?_; rintro e w1 ⟨rfl, hr, hf⟩)
      go_ret2
      exact ⟨rfl, hr, hf⟩
theorem field_no {S : Nat → Prop} {w : World} {rb : Nat} {bs : List UInt8} {is : Bool} (h : Rd S w rb bs) (hs : fieldS is bs = none) :
    Calls Try.prog 75 #[.pointer (some ⟨rb, 0, none⟩), .bool is] w (NumNo .u32 w) := by
  cases is
  · simp [fieldS] at hs
  · by_cases hl : bs.length < 4
    · clear hs
      have H := Lib.hid h
      clear h
      go_enter Try.func75, Try.ntmps75
      go_wp2_with (go_at_call 57; refine (rU32_no H.out hl).mono ?_; rintro e w1 ⟨b, rfl, he, hf⟩)
      go_ret2
      exact ⟨b, rfl, he, hf⟩
    · simp [fieldS, hl] at hs

/-- The header, whole; or not. -/
def HdrOk (S : Nat → Prop) (w : World) (rb : Nat) (s k : Bool) (key : Nat) (q : Bool) (seq : Nat) (r : List UInt8) (e : Ending) (w' : World) : Prop :=
  e = .returned (.tuple #[.agg #[.bool s, .bool k, .int .u32 key, .bool q, .int .u32 seq], .nilIface]) ∧ Rd S w' rb r ∧ Fr (Is rb) w w'
def HdrNo (w : World) (rb : Nat) (e : Ending) (w' : World) : Prop :=
  ∃ (s k q : Bool) (x y : Int) (b : Nat), e = .returned (.tuple #[.agg #[.bool s, .bool k, .int .u32 x, .bool q, .int .u32 y], .iface 107 (.pointer (some ⟨b, 0, none⟩))]) ∧
    Err w' (.iface 107 (.pointer (some ⟨b, 0, none⟩))) [octetsS] 2 ∧ Fr (Is rb) w w'

theorem Fr.set5 {S : Nat → Prop} {a w : World} (h : Fr S a w) {b : Nat} (hb : S b ∨ a.heap.size ≤ b) (v0 v1 v2 v3 v4 : Value) :
    Fr S a (((((w.setCell ⟨b, 0, none⟩ v0).setCell ⟨b, 1, none⟩ v1).setCell ⟨b, 2, none⟩ v2).setCell ⟨b, 3, none⟩ v3).setCell ⟨b, 4, none⟩ v4) :=
  (((((h.setCell (p := ⟨b, 0, none⟩) hb _).setCell (p := ⟨b, 1, none⟩) hb _).setCell (p := ⟨b, 2, none⟩) hb _).setCell (p := ⟨b, 3, none⟩) hb _).setCell (p := ⟨b, 4, none⟩) hb _)
theorem set_row {w : World} {b t : Nat} {cs cs' : Array Value} (h : w.heap[b]? = some (.cells cs t (0, 0))) (i : Nat) (v : Value) (hc : cs.setIfInBounds i v = cs') : (w.setCell ⟨b, i, none⟩ v).heap[b]? = some (.cells cs' t (0, 0)) := by
  rw [← hc]; exact heap_setCell_same w b i cs t v h

set_option maxRecDepth 100000 in
theorem header_ok {S : Nat → Prop} {w : World} {rb : Nat} {bs r0 r1 r2 : List UInt8} {s k q : Bool} {v0 key seq : Nat} (fl : Int) (h : Rd S w rb bs) (hS : ∀ i, S i → i < w.heap.size)
    (e1 : (bits .and .u16 fl 32768 != 0) = s) (e2 : (bits .and .u16 fl 8192 != 0) = k) (e3 : (bits .and .u16 fl 4096 != 0) = q)
    (f1 : fieldS s bs = some (v0, r0)) (f2 : fieldS k r0 = some (key, r1)) (f3 : fieldS q r1 = some (seq, r2)) :
    Calls Try.prog 71 #[.pointer (some ⟨rb, 0, none⟩), .int .u16 fl] w (HdrOk S w rb s k key q seq r2) := by
  have H := Lib.hid h
  have HS := Lib.hid hS
  have E1 := Lib.hid f1
  have E2 := Lib.hid f2
  have E3 := Lib.hid f3
  have hrb : rb ≠ w.heap.size := by obtain ⟨_, _, _, _, _, _, h4, _⟩ := h; have := hS _ h4; omega
  have HR := Lib.hid hrb
  clear h hS f1 f2 f3 hrb
  go_enter Try.func71, Try.ntmps71
  go_wp2_with fail
  have X0 := Lib.hid (heap_alloc_new w (.cells #[.bool s, .bool k, .int .u32 0, .bool q, .int .u32 0] 113))
  have F0 := Lib.hid ((Fr.refl (Is rb) w).alloc (.cells #[.bool s, .bool k, .int .u32 0, .bool q, .int .u32 0] 113))
  have H0 := Lib.hid (H.out.no ((Fr.refl No w).alloc (.cells #[.bool s, .bool k, .int .u32 0, .bool q, .int .u32 0] 113)))
  generalize hw0 : w.alloc (.cells #[.bool s, .bool k, .int .u32 0, .bool q, .int .u32 0] 113) = w0 at *
  clear hw0
  refine (field_ok H0.out E1.out).mono ?_
  rintro e w1 ⟨rfl, h1, f1⟩
  have H1 := Lib.hid h1
  have F1 := Lib.hid (F0.out.trans f1)
  have x1 := f1.heap X0.out (fun h => HR.out h.symm)
  have X1 := Lib.hid x1
  clear h1 f1 X0 F0 H0
  obtain ⟨c0, c1, c2, c3, c4⟩ := cells5 x1
  clear x1
  go_wp2_with fail
  refine (field_ok H1.out E2.out).mono ?_
  rintro e w2 ⟨rfl, h2, f2⟩
  have x2 := f2.heap X1.out (fun h => HR.out h.symm)
  have F2 := Lib.hid ((F1.out.trans f2).setCell (p := ⟨w.heap.size, 2, none⟩) (.inr (Nat.le_refl _)) (.int .u32 key))
  have H2 := Lib.hid (h2.fr (Fr.setCell (Fr.refl (Is w.heap.size) w2) (p := ⟨w.heap.size, 2, none⟩) (.inl (show w.heap.size = w.heap.size from rfl)) (.int .u32 key)) (fun i hi e => by have := HS.out i hi; simp only [Is] at e; omega))
  have X2 := Lib.hid (set_row (cs' := #[.bool s, .bool k, .int .u32 key, .bool q, .int .u32 0]) x2 2 (.int .u32 key) (by simp))
  clear H1 F1 X1 h2 f2 c0 c1 c2 c3 c4
  obtain ⟨c0, c1, c2, c3, c4⟩ := cells5 x2
  obtain ⟨z0, z1, z2, z3, z4⟩ := free5 x2
  clear x2
  go_wp2_with fail
  generalize w2.setCell ⟨w.heap.size, 2, none⟩ (.int .u32 key) = w2' at *
  clear c0 c1 c2 c3 c4 z0 z1 z2 z3 z4
  refine (field_ok H2.out E3.out).mono ?_
  rintro e w3 ⟨rfl, h3, f3⟩
  have x3 := f3.heap X2.out (fun h => HR.out h.symm)
  have F3 := Lib.hid ((F2.out.trans f3).setCell (p := ⟨w.heap.size, 4, none⟩) (.inr (Nat.le_refl _)) (.int .u32 seq))
  have H3 := Lib.hid (h3.fr (Fr.setCell (Fr.refl (Is w.heap.size) w3) (p := ⟨w.heap.size, 4, none⟩) (.inl (show w.heap.size = w.heap.size from rfl)) (.int .u32 seq)) (fun i hi e => by have := HS.out i hi; simp only [Is] at e; omega))
  clear H2 F2 X2 h3 f3
  obtain ⟨c0, c1, c2, c3, c4⟩ := cells5 x3
  obtain ⟨z0, z1, z2, z3, z4⟩ := free5 x3
  clear x3
  go_wp2_with fail
  refine bodyPost_ret (v := .tuple #[.agg #[.bool s, .bool k, .int .u32 key, .bool q, .int .u32 seq], .nilIface]) (by simp [results, Try.results71, go_sem, c0, c1, c2, c3, c4]) rfl
    ⟨rfl, H3.out.fr (Fr.set5 (Fr.refl (Is w.heap.size) _) (.inl rfl) _ _ _ _ _) (fun i hi e => by have := HS.out i hi; simp only [Is] at e; omega), F3.out.set5 (.inr (Nat.le_refl _)) _ _ _ _ _⟩

/-- The last step of 'header' where a field is not there: the world behind what it stores. -/
theorem HdrNo.of {w w1 : World} {rb hb b : Nat} {s k q : Bool} {x y : Int} {v0 v1 v2 v3 v4 : Value} (hf : Fr (Is rb) w w1) (hh : w.heap.size ≤ hb) (he : Err w1 (.iface 107 (.pointer (some ⟨b, 0, none⟩))) [octetsS] 2) (hbb : b ≠ hb ) :
    HdrNo w rb (.returned (.tuple #[.agg #[.bool s, .bool k, .int .u32 x, .bool q, .int .u32 y], .iface 107 (.pointer (some ⟨b, 0, none⟩))])) (((((w1.setCell ⟨hb, 0, none⟩ v0).setCell ⟨hb, 1, none⟩ v1).setCell ⟨hb, 2, none⟩ v2).setCell ⟨hb, 3, none⟩ v3).setCell ⟨hb, 4, none⟩ v4) := by
  refine ⟨s, k, q, x, y, b, rfl, ?_, hf.set5 (.inr hh) _ _ _ _ _⟩
  cases he with
  | wrap h hv =>
    cases hv with
    | num => exact .wrap ((Fr.set5 (Fr.refl (Is hb) w1) (.inl rfl) _ _ _ _ _).heap h hbb) (.num _)

set_option maxRecDepth 100000 in
theorem header_no1 {S : Nat → Prop} {w : World} {rb : Nat} {bs : List UInt8} {s k q : Bool} (fl : Int) (h : Rd S w rb bs) (hS : ∀ i, S i → i < w.heap.size)
    (e1 : (bits .and .u16 fl 32768 != 0) = s) (e2 : (bits .and .u16 fl 8192 != 0) = k) (e3 : (bits .and .u16 fl 4096 != 0) = q) (f1 : fieldS s bs = none) :
    Calls Try.prog 71 #[.pointer (some ⟨rb, 0, none⟩), .int .u16 fl] w (HdrNo w rb) := by
  have H := Lib.hid h
  have E1 := Lib.hid f1
  have hrb : rb ≠ w.heap.size := by obtain ⟨_, _, _, _, _, _, h4, _⟩ := h; have := hS _ h4; omega
  have HR := Lib.hid hrb
  clear h hS f1 hrb
  go_enter Try.func71, Try.ntmps71
  go_wp2_with fail
  have X0 := Lib.hid (heap_alloc_new w (.cells #[.bool s, .bool k, .int .u32 0, .bool q, .int .u32 0] 113))
  have F0 := Lib.hid ((Fr.refl (Is rb) w).alloc (.cells #[.bool s, .bool k, .int .u32 0, .bool q, .int .u32 0] 113))
  have H0 := Lib.hid (H.out.no ((Fr.refl No w).alloc (.cells #[.bool s, .bool k, .int .u32 0, .bool q, .int .u32 0] 113)))
  generalize hw0 : w.alloc (.cells #[.bool s, .bool k, .int .u32 0, .bool q, .int .u32 0] 113) = w0 at *
  clear hw0
  refine (field_no H0.out E1.out).mono ?_
  rintro e w1 ⟨b, rfl, he, f1⟩
  have F1 := Lib.hid (F0.out.then_no f1)
  have x1 := f1.heap X0.out (fun h => h)
  have HE := Lib.hid he
  clear he f1 X0 F0 H0
  obtain ⟨c0, c1, c2, c3, c4⟩ := cells5 x1
  obtain ⟨z0, z1, z2, z3, z4⟩ := free5 x1
  have hbb : b ≠ w.heap.size := by rintro rfl; cases HE.out with | wrap h hv => rw [x1] at h; simp at h
  have HBB := Lib.hid hbb
  clear x1 hbb
  go_wp2_with fail
  refine bodyPost_ret (v := .tuple #[.agg #[.bool s, .bool k, .int .u32 0, .bool q, .int .u32 0], .iface 107 (.pointer (some ⟨b, 0, none⟩))]) (by simp [results, Try.results71, go_sem, c0, c1, c2, c3, c4]) rfl ?_
  exact HdrNo.of F1.out (Nat.le_refl _) HE.out HBB.out

set_option maxRecDepth 100000 in
theorem header_no2 {S : Nat → Prop} {w : World} {rb : Nat} {bs r0 : List UInt8} {s k q : Bool} {v0 : Nat} (fl : Int) (h : Rd S w rb bs) (hS : ∀ i, S i → i < w.heap.size)
    (e1 : (bits .and .u16 fl 32768 != 0) = s) (e2 : (bits .and .u16 fl 8192 != 0) = k) (e3 : (bits .and .u16 fl 4096 != 0) = q) (f1 : fieldS s bs = some (v0, r0)) (f2 : fieldS k r0 = none) :
    Calls Try.prog 71 #[.pointer (some ⟨rb, 0, none⟩), .int .u16 fl] w (HdrNo w rb) := by
  have H := Lib.hid h
  have E1 := Lib.hid f1
  have E2 := Lib.hid f2
  have hrb : rb ≠ w.heap.size := by obtain ⟨_, _, _, _, _, _, h4, _⟩ := h; have := hS _ h4; omega
  have HR := Lib.hid hrb
  clear h hS f1 f2 hrb
  go_enter Try.func71, Try.ntmps71
  go_wp2_with fail
  have X0 := Lib.hid (heap_alloc_new w (.cells #[.bool s, .bool k, .int .u32 0, .bool q, .int .u32 0] 113))
  have F0 := Lib.hid ((Fr.refl (Is rb) w).alloc (.cells #[.bool s, .bool k, .int .u32 0, .bool q, .int .u32 0] 113))
  have H0 := Lib.hid (H.out.no ((Fr.refl No w).alloc (.cells #[.bool s, .bool k, .int .u32 0, .bool q, .int .u32 0] 113)))
  generalize hw0 : w.alloc (.cells #[.bool s, .bool k, .int .u32 0, .bool q, .int .u32 0] 113) = w0 at *
  clear hw0
  refine (field_ok H0.out E1.out).mono ?_
  rintro e w1 ⟨rfl, h1, f1⟩
  have H1 := Lib.hid h1
  have F1 := Lib.hid (F0.out.trans f1)
  have x1 := f1.heap X0.out (fun h => HR.out h.symm)
  have X1 := Lib.hid x1
  clear h1 f1 X0 F0 H0
  obtain ⟨c0, c1, c2, c3, c4⟩ := cells5 x1
  clear x1
  go_wp2_with fail
  refine (field_no H1.out E2.out).mono ?_
  rintro e w2 ⟨b, rfl, he, f2⟩
  have F2 := Lib.hid ((F1.out.then_no f2).setCell (p := ⟨w.heap.size, 2, none⟩) (.inr (Nat.le_refl _)) (.int .u32 0))
  have x2 := f2.heap X1.out (fun h => h)
  clear F1 X1 H1 f2 c0 c1 c2 c3 c4
  obtain ⟨c0, c1, c2, c3, c4⟩ := cells5 x2
  obtain ⟨z0, z1, z2, z3, z4⟩ := free5 x2
  have hbb : b ≠ w.heap.size := by rintro rfl; cases he with | wrap h hv => rw [x2] at h; simp at h
  have HBB := Lib.hid hbb
  have HE : Hid (Err (w2.setCell ⟨w.heap.size, 2, none⟩ (.int .u32 0)) (.iface 107 (.pointer (some ⟨b, 0, none⟩))) [octetsS] 2) := by
    cases he with
    | wrap h hv =>
      cases hv with
      | num => exact .wrap ((Fr.setCell (Fr.refl (Is w.heap.size) w2) (p := ⟨w.heap.size, 2, none⟩) (.inl (show w.heap.size = w.heap.size from rfl)) (.int .u32 0)).heap h hbb) (.num _)
  clear x2 hbb he
  go_wp2_with fail
  refine bodyPost_ret (v := .tuple #[.agg #[.bool s, .bool k, .int .u32 0, .bool q, .int .u32 0], .iface 107 (.pointer (some ⟨b, 0, none⟩))]) (by simp [results, Try.results71, go_sem, c0, c1, c2, c3, c4]) rfl ?_
  exact HdrNo.of F2.out (Nat.le_refl _) HE.out HBB.out

set_option maxRecDepth 100000 in
theorem header_no3 {S : Nat → Prop} {w : World} {rb : Nat} {bs r0 r1 : List UInt8} {s k q : Bool} {v0 key : Nat} (fl : Int) (h : Rd S w rb bs) (hS : ∀ i, S i → i < w.heap.size)
    (e1 : (bits .and .u16 fl 32768 != 0) = s) (e2 : (bits .and .u16 fl 8192 != 0) = k) (e3 : (bits .and .u16 fl 4096 != 0) = q)
    (f1 : fieldS s bs = some (v0, r0)) (f2 : fieldS k r0 = some (key, r1)) (f3 : fieldS q r1 = none) :
    Calls Try.prog 71 #[.pointer (some ⟨rb, 0, none⟩), .int .u16 fl] w (HdrNo w rb) := by
  have H := Lib.hid h
  have HS := Lib.hid hS
  have E1 := Lib.hid f1
  have E2 := Lib.hid f2
  have E3 := Lib.hid f3
  have hrb : rb ≠ w.heap.size := by obtain ⟨_, _, _, _, _, _, h4, _⟩ := h; have := hS _ h4; omega
  have HR := Lib.hid hrb
  clear h hS f1 f2 f3 hrb
  go_enter Try.func71, Try.ntmps71
  go_wp2_with fail
  have X0 := Lib.hid (heap_alloc_new w (.cells #[.bool s, .bool k, .int .u32 0, .bool q, .int .u32 0] 113))
  have F0 := Lib.hid ((Fr.refl (Is rb) w).alloc (.cells #[.bool s, .bool k, .int .u32 0, .bool q, .int .u32 0] 113))
  have H0 := Lib.hid (H.out.no ((Fr.refl No w).alloc (.cells #[.bool s, .bool k, .int .u32 0, .bool q, .int .u32 0] 113)))
  generalize hw0 : w.alloc (.cells #[.bool s, .bool k, .int .u32 0, .bool q, .int .u32 0] 113) = w0 at *
  clear hw0
  refine (field_ok H0.out E1.out).mono ?_
  rintro e w1 ⟨rfl, h1, f1⟩
  have H1 := Lib.hid h1
  have F1 := Lib.hid (F0.out.trans f1)
  have x1 := f1.heap X0.out (fun h => HR.out h.symm)
  have X1 := Lib.hid x1
  clear h1 f1 X0 F0 H0
  obtain ⟨c0, c1, c2, c3, c4⟩ := cells5 x1
  clear x1
  go_wp2_with fail
  refine (field_ok H1.out E2.out).mono ?_
  rintro e w2 ⟨rfl, h2, f2⟩
  have x2 := f2.heap X1.out (fun h => HR.out h.symm)
  have F2 := Lib.hid ((F1.out.trans f2).setCell (p := ⟨w.heap.size, 2, none⟩) (.inr (Nat.le_refl _)) (.int .u32 key))
  have H2 := Lib.hid (h2.fr (Fr.setCell (Fr.refl (Is w.heap.size) w2) (p := ⟨w.heap.size, 2, none⟩) (.inl (show w.heap.size = w.heap.size from rfl)) (.int .u32 key)) (fun i hi e => by have := HS.out i hi; simp only [Is] at e; omega))
  have X2 := Lib.hid (set_row (cs' := #[.bool s, .bool k, .int .u32 key, .bool q, .int .u32 0]) x2 2 (.int .u32 key) (by simp))
  clear H1 F1 X1 h2 f2 c0 c1 c2 c3 c4
  obtain ⟨c0, c1, c2, c3, c4⟩ := cells5 x2
  obtain ⟨z0, z1, z2, z3, z4⟩ := free5 x2
  clear x2
  go_wp2_with fail
  generalize w2.setCell ⟨w.heap.size, 2, none⟩ (.int .u32 key) = w2' at *
  clear c0 c1 c2 c3 c4 z0 z1 z2 z3 z4
  refine (field_no H2.out E3.out).mono ?_
  rintro e w3 ⟨b, rfl, he, f3⟩
  have F3 := Lib.hid ((F2.out.then_no f3).setCell (p := ⟨w.heap.size, 4, none⟩) (.inr (Nat.le_refl _)) (.int .u32 0))
  have x3 := f3.heap X2.out (fun h => h)
  clear F2 X2 H2 f3
  obtain ⟨c0, c1, c2, c3, c4⟩ := cells5 x3
  obtain ⟨z0, z1, z2, z3, z4⟩ := free5 x3
  have hbb : b ≠ w.heap.size := by rintro rfl; cases he with | wrap h hv => rw [x3] at h; simp at h
  have HBB := Lib.hid hbb
  have HE : Hid (Err (w3.setCell ⟨w.heap.size, 4, none⟩ (.int .u32 0)) (.iface 107 (.pointer (some ⟨b, 0, none⟩))) [octetsS] 2) := by
    cases he with
    | wrap h hv =>
      cases hv with
      | num => exact .wrap ((Fr.setCell (Fr.refl (Is w.heap.size) w3) (p := ⟨w.heap.size, 4, none⟩) (.inl (show w.heap.size = w.heap.size from rfl)) (.int .u32 0)).heap h hbb) (.num _)
  clear x3 hbb he
  go_wp2_with fail
  refine bodyPost_ret (v := .tuple #[.agg #[.bool s, .bool k, .int .u32 key, .bool q, .int .u32 0], .iface 107 (.pointer (some ⟨b, 0, none⟩))]) (by simp [results, Try.results71, go_sem, c0, c1, c2, c3, c4]) rfl ?_
  exact HdrNo.of F3.out (Nat.le_refl _) HE.out HBB.out

end Go.Proofs.Ythoppkklooomgaa