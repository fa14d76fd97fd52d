/- gre: decap, Decap. -/
import Derived.Test.YthoppkklooomgaaGre2
namespace Go.Proofs.Ythoppkklooomgaa
open Go.RowKit
set_option linter.unusedVariables false
/-- What comes out of bytes: a header and a frame, or what is wrong (inner: the reader told it). -/
inductive GRes where
  | ok (s k : Bool) (key : Nat) (q : Bool) (seq : Nat) (fs : List UInt8)
  | no (inner : Bool) (code : Int)
def gSize (s k : Bool) (key : Nat) (q : Bool) (seq : Nat) (fs : List UInt8) : GRes := if fs.length < 14 then .no false 2 else if 9000 < fs.length then .no false 7 else .ok s k key q seq fs
def fl (bs : List UInt8) : Int := (be (bs.take 4) : Int) / 65536
def fS (bs : List UInt8) : Bool := bits .and .u16 (fl bs) 32768 != 0
def fK (bs : List UInt8) : Bool := bits .and .u16 (fl bs) 8192 != 0
def fQ (bs : List UInt8) : Bool := bits .and .u16 (fl bs) 4096 != 0
def hdrOf (s k q : Bool) (bs : List UInt8) : Option (Nat × Nat × List UInt8) :=
  match fieldS s bs with
  | none => none
  | some (_, r0) => match fieldS k r0 with
    | none => none
    | some (key, r1) => match fieldS q r1 with
      | none => none
      | some (seq, r2) => some (key, seq, r2)
theorem hdrOf_len {s k q : Bool} {bs r : List UInt8} {key seq : Nat} (h : hdrOf s k q bs = some (key, seq, r)) : r.length ≤ bs.length := by
  have L : ∀ {is : Bool} {a b : List UInt8} {v : Nat}, fieldS is a = some (v, b) → b.length ≤ a.length := by
    intro is a b v h
    cases is
    · simp [fieldS] at h; simp [h.2]
    · unfold fieldS at h
      by_cases h4 : a.length < 4
      · simp [h4] at h
      · simp [h4] at h; simp [← h.2]
  unfold hdrOf at h
  cases f1 : fieldS s bs with
  | none => simp [f1] at h
  | some p =>
    obtain ⟨v0, r0⟩ := p
    simp only [f1] at h
    cases f2 : fieldS k r0 with
    | none => simp [f2] at h
    | some p =>
      obtain ⟨key', r1⟩ := p
      simp only [f2] at h
      cases f3 : fieldS q r1 with
      | none => simp [f3] at h
      | some p =>
        obtain ⟨seq', r2⟩ := p
        simp only [f3, Option.some.injEq, Prod.mk.injEq] at h
        obtain ⟨rfl, rfl, rfl⟩ := h
        exact Nat.le_trans (L f3) (Nat.le_trans (L f2) (L f1))
def gHdr (bs : List UInt8) : Option (Nat × Nat × List UInt8) := hdrOf (fS bs) (fK bs) (fQ bs) (bs.drop 4)

theorem header_none {S : Nat → Prop} {w : World} {rb : Nat} {bs : List UInt8} {s k q : Bool} (fl : Int) (h : Rd S w rb bs) (hS : ∀ i, S i → i < w.heap.size)
    (e1 : (bits .and .u16 fl 32768 != 0) = s) (e2 : (bits .and .u16 fl 8192 != 0) = k) (e3 : (bits .and .u16 fl 4096 != 0) = q) (hh : hdrOf s k q bs = none) :
    Calls Try.prog 71 #[.pointer (some ⟨rb, 0, none⟩), .int .u16 fl] w (HdrNo w rb) := by
  unfold hdrOf at hh
  cases f1 : fieldS s bs with
  | none => exact header_no1 fl h hS e1 e2 e3 f1
  | some p =>
    obtain ⟨v0, r0⟩ := p
    rw [f1] at hh
    cases f2 : fieldS k r0 with
    | none => exact header_no2 fl h hS e1 e2 e3 f1 f2
    | some p =>
      obtain ⟨key, r1⟩ := p
      simp only [f2] at hh
      cases f3 : fieldS q r1 with
      | none => exact header_no3 fl h hS e1 e2 e3 f1 f2 f3
      | some p => simp [f3] at hh
theorem header_some {S : Nat → Prop} {w : World} {rb : Nat} {bs r : List UInt8} {s k q : Bool} {key seq : Nat} (fl : Int) (h : Rd S w rb bs) (hS : ∀ i, S i → i < w.heap.size)
    (e1 : (bits .and .u16 fl 32768 != 0) = s) (e2 : (bits .and .u16 fl 8192 != 0) = k) (e3 : (bits .and .u16 fl 4096 != 0) = q) (hh : hdrOf s k q bs = some (key, seq, r)) :
    Calls Try.prog 71 #[.pointer (some ⟨rb, 0, none⟩), .int .u16 fl] w (HdrOk S w rb s k key q seq r) := by
  unfold hdrOf at hh
  cases f1 : fieldS s bs with
  | none => simp [f1] at hh
  | some p =>
    obtain ⟨v0, r0⟩ := p
    simp only [f1] at hh
    cases f2 : fieldS k r0 with
    | none => simp [f2] at hh
    | some p =>
      obtain ⟨key', r1⟩ := p
      simp only [f2] at hh
      cases f3 : fieldS q r1 with
      | none => simp [f3] at hh
      | some p =>
        obtain ⟨seq', r2⟩ := p
        simp only [f3, Option.some.injEq, Prod.mk.injEq] at hh
        obtain ⟨rfl, rfl, rfl⟩ := hh
        exact header_ok fl h hS e1 e2 e3 f1 f2 f3
def gDec (bs : List UInt8) : GRes :=
  if bs.length < 4 then .no true 2
  else if (bits .and .u32 (fl bs) 20479 != 0) = true then .no false 3
  else if (bits .and .u32 (be (bs.take 4) : Int) 65535 != 25944) = true then .no false 12
  else match gHdr bs with
    | none => .no true 2
    | some (key, seq, r) => if fS bs = true ∧ sumS bs ≠ 0 then .no false 4 else gSize (fS bs) (fK bs) key (fQ bs) seq r

def zeroH : Value := .agg #[.bool false, .bool false, .int .u32 0, .bool false, .int .u32 0]
def GOut (w : World) : GRes → List ByteArray → Ending → World → Prop
  | .ok s k key q seq fs, _, e, w' => ∃ g cap, e = .returned (.tuple #[.agg #[.bool s, .bool k, .int .u32 key, .bool q, .int .u32 seq], .slice (some ⟨g, 0, none⟩) fs.length cap, .nilIface]) ∧ OB w' 5 (some ⟨g, 0, none⟩) fs.length cap fs ∧ Fr No w w' ∧ w.heap.size ≤ g
  | .no inner code, ls, e, w' => ∃ v, e = .returned (.tuple #[zeroH, .slice none 0 0, v]) ∧ Err w' v (ls ++ if inner then [octetsS] else []) code ∧ Fr No w w'

/-- An error is as it was where other blocks than its own are written. -/
theorem Err.set5 {w : World} {v : Value} {ls : List ByteArray} {n : Int} (h : Err w v ls n) {b t : Nat} {cs : Array Value} (hb : w.heap[b]? = some (.cells cs t (0, 0))) (ht : t ≠ 109) (v0 v1 v2 v3 v4 : Value) :
    Err (((((w.setCell ⟨b, 0, none⟩ v0).setCell ⟨b, 1, none⟩ v1).setCell ⟨b, 2, none⟩ v2).setCell ⟨b, 3, none⟩ v3).setCell ⟨b, 4, none⟩ v4) v ls n := by
  induction h with
  | num n => exact .num n
  | @wrap b' s v ls n h hv ih => exact .wrap ((Fr.set5 (Fr.refl (Is b) w) (.inl rfl) _ _ _ _ _).heap h (by rintro rfl; rw [hb] at h; simp at h; exact ht h.2)) ih

set_option maxHeartbeats 1600000 in
set_option maxRecDepth 100000 in
theorem gdecap_any {w : World} {ao : Option Addr} {n cap : Nat} {bs : List UInt8} (hb : Bs w ao n cap bs) (hn : n ≤ 20000) : Calls Try.prog 62 #[.slice ao n cap] w (GOut w (gDec bs) []) := by
  have HB := Lib.hid hb
  have hN : bs.length = n := hb.1.symm
  have HN := Lib.hid hN
  clear hb hN
  go_enter Try.func62, Try.ntmps62
  go_wp2_with fail
  have X0 := Lib.hid (heap_alloc_new w (.cells #[.bool false, .bool false, .int .u32 0, .bool false, .int .u32 0] 113))
  have F0 := Lib.hid ((Fr.refl No w).alloc (.cells #[.bool false, .bool false, .int .u32 0, .bool false, .int .u32 0] 113))
  have hs0 : (w.alloc (.cells #[.bool false, .bool false, .int .u32 0, .bool false, .int .u32 0] 113)).heap.size = w.heap.size + 1 := by simp
  generalize hw0 : w.alloc (.cells #[.bool false, .bool false, .int .u32 0, .bool false, .int .u32 0] 113) = w0 at *
  clear hw0
  refine (oread_any (HB.out.no F0.out) (by unfold big; omega)).mono ?_
  rintro e w1 ⟨rb, rfl, hrb, r1, f1⟩
  have X1 := Lib.hid (f1.heap X0.out (fun h => h))
  have F1 := Lib.hid (F0.out.then_no f1)
  have R1 := Lib.hid r1
  clear X0 F0 r1 f1
  go_wp2_with fail
  by_cases h4 : n < 4
  · have HG : Hid (gDec bs = .no true 2) := Lib.hid (by unfold gDec; rw [if_pos (by rw [HN.out]; exact h4)])
    refine (rU32_no R1.out (by rw [HN.out]; exact h4)).mono ?_
    rintro e w2 ⟨b, rfl, he, f2⟩
    have X2 := Lib.hid (f2.heap X1.out (fun h => h))
    have F2 := Lib.hid (F1.out.then_no f2)
    have HE := Lib.hid he
    clear X1 F1 R1 he f2
    obtain ⟨c0, c1, c2, c3, c4⟩ := cells5 X2.out
    obtain ⟨z0, z1, z2, z3, z4⟩ := free5 X2.out
    go_wp2_with fail
    refine bodyPost_ret (v := .tuple #[zeroH, .slice none 0 0, .iface 107 (.pointer (some ⟨b, 0, none⟩))]) (by simp [results, Try.results62, go_sem, c0, c1, c2, c3, c4, zeroH]) rfl ?_
    rw [HG.out]
    exact ⟨_, rfl, HE.out.set5 X2.out (by decide) _ _ _ _ _, F2.out.set5 (.inr (Nat.le_refl _)) _ _ _ _ _⟩
  · refine (rU32_ok R1.out (by rw [HN.out]; omega)).mono ?_
    rintro e w2 ⟨rfl, r2, f2⟩
    have X2 := Lib.hid (f2.heap X1.out (by rintro rfl; omega))
    have F2 := Lib.hid (F1.out.then f2 (by rintro i hi rfl; omega))
    have R2 := Lib.hid r2
    have HSZ := Lib.hid f2.size
    clear X1 F1 R1 r2 f2
    obtain ⟨c0, c1, c2, c3, c4⟩ := cells5 X2.out
    obtain ⟨z0, z1, z2, z3, z4⟩ := free5 X2.out
    have hf32 : be (bs.take 4) < 4294967296 := by
      have h1 := be_lt (bs.take 4)
      have h2 : (bs.take 4).length ≤ 4 := List.length_take_le _ _
      have h3 : 256 ^ (bs.take 4).length ≤ 256 ^ 4 := Nat.pow_le_pow_right (by omega) h2
      omega
    obtain ⟨f, hf⟩ : ∃ f, f = be (bs.take 4) := ⟨_, rfl⟩
    rw [← hf] at hf32 ⊢
    have HFF := Lib.hid hf
    clear hf
    by_cases h5 : (bits .and .u32 ((f : Int) / 65536) 20479 != 0) = true
    · have HG : Hid (gDec bs = .no false 3) := Lib.hid (by unfold gDec; rw [if_neg (by rw [HN.out]; exact h4), if_pos (by rw [fl, ← HFF.out]; exact h5)])
      go_wp2_with fail
      refine bodyPost_ret (v := .tuple #[zeroH, .slice none 0 0, .iface 32 (.int .i64 3)]) (by simp [results, Try.results62, go_sem, c0, c1, c2, c3, c4, zeroH]) rfl ?_
      rw [HG.out]
      exact ⟨_, rfl, .num 3, F2.out.set5 (.inr (Nat.le_refl _)) _ _ _ _ _⟩
    · by_cases h6 : (bits .and .u32 (f : Int) 65535 != 25944) = true
      · have HG : Hid (gDec bs = .no false 12) := Lib.hid (by unfold gDec; rw [if_neg (by rw [HN.out]; exact h4), if_neg (by rw [fl, ← HFF.out]; exact h5), if_pos (by rw [← HFF.out]; exact h6)])
        have h5' : (bits .and .u32 ((f : Int) / 65536) 20479 != 0) = false := by simpa using h5
        go_wp2_with fail
        refine bodyPost_ret (v := .tuple #[zeroH, .slice none 0 0, .iface 32 (.int .i64 12)]) (by simp [results, Try.results62, go_sem, c0, c1, c2, c3, c4, zeroH]) rfl ?_
        rw [HG.out]
        exact ⟨_, rfl, .num 12, F2.out.set5 (.inr (Nat.le_refl _)) _ _ _ _ _⟩
      · have h5' : (bits .and .u32 ((f : Int) / 65536) 20479 != 0) = false := by simpa using h5
        have h6' : (bits .and .u32 (f : Int) 65535 != 25944) = false := by simpa using h6
        have h4' := h4
        clear h5 h6
        have HD : Hid (gDec bs = match gHdr bs with | none => .no true 2 | some (key, seq, r) => if fS bs = true ∧ sumS bs ≠ 0 then .no false 4 else gSize (fS bs) (fK bs) key (fQ bs) seq r) :=
          Lib.hid (by unfold gDec; rw [if_neg (by rw [HN.out]; exact h4), if_neg (by rw [fl, ← HFF.out, h5']; simp), if_neg (by rw [← HFF.out, h6']; simp)])
        obtain ⟨s, hs⟩ : ∃ s, (bits .and .u16 ((f : Int) / 65536) 32768 != 0) = s := ⟨_, rfl⟩
        obtain ⟨k, hk⟩ : ∃ k, (bits .and .u16 ((f : Int) / 65536) 8192 != 0) = k := ⟨_, rfl⟩
        obtain ⟨q, hq⟩ : ∃ q, (bits .and .u16 ((f : Int) / 65536) 4096 != 0) = q := ⟨_, rfl⟩
        have ES : Hid (fS bs = s) := Lib.hid (by unfold fS fl; rw [← HFF.out]; exact hs)
        have EK : Hid (fK bs = k) := Lib.hid (by unfold fK fl; rw [← HFF.out]; exact hk)
        have EQ : Hid (fQ bs = q) := Lib.hid (by unfold fQ fl; rw [← HFF.out]; exact hq)
        have HS := Lib.hid hs
        have HK := Lib.hid hk
        have HQ := Lib.hid hq
        clear hs hk hq
        go_wp2_with fail
        clear h5' h6'
        have hiv : ∀ i, Iv w0.heap.size w1.heap.size i → i < w2.heap.size := fun i hi => Nat.lt_of_lt_of_le hi.2 (by have := F2.out.size; exact HSZ.out)
        cases hh : hdrOf s k q (bs.drop 4) with
        | none =>
          have HG : Hid (gDec bs = .no true 2) := Lib.hid (by rw [HD.out]; unfold gHdr; rw [ES.out, EK.out, EQ.out, hh])
          refine (header_none _ R2.out hiv HS.out HK.out HQ.out hh).mono ?_
          rintro e w3 ⟨s', k', q', x, y, b, rfl, he, f3⟩
          have X3 := f3.heap X2.out (by rintro rfl; omega)
          have F3 := Lib.hid (F2.out.then f3 (by rintro i hi rfl; omega))
          have HE := Lib.hid he
          have hlt := lt_of_heap X3
          clear c0 c1 c2 c3 c4 z0 z1 z2 z3 z4 f3 he X2 F2
          obtain ⟨c0, c1, c2, c3, c4⟩ := cells5 X3
          obtain ⟨z0, z1, z2, z3, z4⟩ := free5 X3
          have X3 := Lib.hid X3
          clear hh hiv
          go_wp2_with fail
          refine bodyPost_ret (v := .tuple #[zeroH, .slice none 0 0, .iface 107 (.pointer (some ⟨b, 0, none⟩))]) (by simp [results, Try.results62, go_sem, c0, c1, c2, c3, c4, hlt, zeroH]) rfl ?_
          rw [HG.out]
          exact ⟨_, rfl, (HE.out.set5 X3.out (by decide) _ _ _ _ _).no ((Fr.refl No _).alloc _), (F3.out.set5 (.inr (Nat.le_refl _)) _ _ _ _ _).alloc _⟩
        | some p =>
          obtain ⟨key, seq, r⟩ := p
          have HG : Hid (gDec bs = if s = true ∧ sumS bs ≠ 0 then .no false 4 else gSize s k key q seq r) := Lib.hid (by rw [HD.out]; unfold gHdr; rw [ES.out, EK.out, EQ.out, hh])
          refine (header_some _ R2.out hiv HS.out HK.out HQ.out hh).mono ?_
          rintro e w3 ⟨rfl, r3, f3⟩
          have X3 := f3.heap X2.out (by rintro rfl; omega)
          have F3 := Lib.hid (F2.out.then f3 (by rintro i hi rfl; omega))
          have hlt := lt_of_heap X3
          have hrb3 : rb < w3.heap.size := by obtain ⟨_, _, _, h, _⟩ := r3; exact lt_of_heap h
          have R3 := Lib.hid r3
          have HH := Lib.hid hh
          clear c0 c1 c2 c3 c4 z0 z1 z2 z3 z4 f3 r3 X2 F2 R2 hh hiv
          obtain ⟨c0, c1, c2, c3, c4⟩ := cells5 X3
          obtain ⟨z0, z1, z2, z3, z4⟩ := free5 X3
          have X3 := Lib.hid X3
          go_upto_region 12 with fail
          have F4 := Lib.hid (F3.out.alloc (.cells #[.bool s, .bool k, .int .u32 key, .bool q, .int .u32 seq] 113))
          have fa := (Fr.refl No w3).alloc (.cells #[.bool s, .bool k, .int .u32 key, .bool q, .int .u32 seq] 113)
          have X4 := Lib.hid (fa.heap X3.out (fun h => h))
          have H4 := Lib.hid (heap_alloc_new w3 (.cells #[.bool s, .bool k, .int .u32 key, .bool q, .int .u32 seq] 113))
          have R4 := Lib.hid (R3.out.no fa)
          have B4 := Lib.hid (HB.out.no F4.out)
          have hrb4 := Lib.hid hrb3
          have hd4 := Lib.hid hlt
          obtain ⟨hb8, hB8⟩ : ∃ b, b = w3.heap.size := ⟨_, rfl⟩
          rw [← hB8] at H4 hd4 hrb4 ⊢
          generalize w3.alloc (.cells #[.bool s, .bool k, .int .u32 key, .bool q, .int .u32 seq] 113) = w4 at *
          clear c0 c1 c2 c3 c4 z0 z1 z2 z3 z4 hB8 fa R3 X3 F3 hlt hrb3
          obtain ⟨c0, c1, c2, c3, c4⟩ := cells5 H4.out
          clear c1 c2 c3 c4
          go_cut [55] (fun s55 wc => s55 = .bool (s && sumS bs != 0) ∧ Fr No w4 wc)
          case first =>
            cases s
            · go_wp2_with fail
              go_meet
              case rel => exact ⟨rfl, Fr.refl _ _⟩
            · have hck : (w4.alloc (.cells #[.slice ao n cap] 36)).cell? ⟨w4.heap.size, 0, none⟩ = some (.slice ao n cap) := by
                rw [cell_of_row _ _ 0 _ 36 (0, 0) (heap_alloc_new w4 _)]; rfl
              have b5 := B4.out.no ((Fr.refl No w4).alloc (.cells #[.slice ao n cap] 36))
              have HCK := Lib.hid hck
              have B5 := Lib.hid b5
              clear hck b5
              go_wp2_with (go_at_call 72; refine (valid_any HCK.out B5.out hn).mono ?_; rintro e w5 ⟨rfl, rfl⟩)
              go_meet
              case rel =>
                refine ⟨?_, (Fr.refl No w4).alloc _⟩
                generalize sumS bs = x
                cases x with
                | zero => rfl
                | succ x => simp [bne]; omega
          case rest =>
            obtain ⟨rfl, f5⟩ := hcut
            have F5 := Lib.hid (F4.out.then_no f5)
            have X5 := Lib.hid (f5.heap X4.out (fun h => h))
            have H5 := Lib.hid (f5.heap H4.out (fun h => h))
            have R5 := Lib.hid (R4.out.no f5)
            have hrl : r.length ≤ bs.length := by
              have := hdrOf_len HH.out
              simp at this; omega
            have HR := Lib.hid hrl
            clear X4 H4 R4 B4 c0 f5 hrl
            obtain ⟨c0, c1, c2, c3, c4⟩ := cells5 X5.out
            obtain ⟨z0, z1, z2, z3, z4⟩ := free5 X5.out
            by_cases hss : (s && sumS bs != 0) = true
            · have HG4 : Hid (gDec bs = .no false 4) := Lib.hid (by rw [HG.out, if_pos (by simpa using hss)])
              rw [hss]
              clear HG hss
              go_wp2_with fail
              refine bodyPost_ret (v := .tuple #[zeroH, .slice none 0 0, .iface 32 (.int .i64 4)]) (by simp [results, Try.results62, go_sem, c0, c1, c2, c3, c4, zeroH]) rfl ?_
              rw [HG4.out]
              exact ⟨_, rfl, .num 4, F5.out.set5 (.inr (Nat.le_refl _)) _ _ _ _ _⟩
            · have HG4 : Hid (gDec bs = gSize s k key q seq r) := Lib.hid (by rw [HG.out, if_neg (by simpa using hss)])
              have hss' : (s && sumS bs != 0) = false := by simpa using hss
              rw [hss']
              clear HG hss hss'
              go_wp2_with fail
              refine (rRest_any R5.out).mono ?_
              rintro e w6 ⟨ao6, rfl, b6, r6, f6, o6⟩
              have B6 := Lib.hid b6
              have F6 := Lib.hid (F5.out.then f6 (by rintro i hi rfl; omega))
              have X6 := Lib.hid (f6.heap X5.out (by rintro rfl; omega))
              have H6 := Lib.hid (f6.heap H5.out (by rintro rfl; exact absurd hrb4.out (by omega)))
              clear X5 H5 R5 F5 b6 r6 f6 o6 c0 c1 c2 c3 c4 z0 z1 z2 z3 z4
              go_wp2_with fail
              refine (cloneB_any B6.out (by have := HR.out; have := HN.out; unfold big; omega)).mono ?_
              rintro e w7 ⟨ao7, cap7, rfl, o7, f7, h7⟩
              have hs6 := F6.out.size
              have hl6 := lt_of_heap X6.out
              have F7 := Lib.hid (F6.out.then_no f7)
              have X7 := Lib.hid (f7.heap X6.out (fun h => h))
              have H7 := Lib.hid (f7.heap H6.out (fun h => h))
              have O7 := Lib.hid o7
              have L7 := Lib.hid h7
              clear X6 H6 F6 B6 o7 f7 h7
              obtain ⟨c0, c1, c2, c3, c4⟩ := cells5 X7.out
              obtain ⟨z0, z1, z2, z3, z4⟩ := free5 X7.out
              obtain ⟨d0, d1, d2, d3, d4⟩ := cells5 H7.out
              by_cases hA : r.length < 14
              · have HG5 : Hid (gDec bs = .no false 2) := Lib.hid (by rw [HG4.out, gSize, if_pos hA])
                go_wp2_with (go_at_call 53; refine (gSize_short _ _ _ hA _).mono ?_; rintro e w8 ⟨rfl, rfl⟩)
                refine bodyPost_ret (v := .tuple #[zeroH, .slice none 0 0, .iface 32 (.int .i64 2)]) (by simp [results, Try.results62, go_sem, c0, c1, c2, c3, c4, zeroH]) rfl ?_
                rw [HG5.out]
                exact ⟨_, rfl, .num 2, F7.out.set5 (.inr (Nat.le_refl _)) _ _ _ _ _⟩
              · by_cases hB : 9000 < r.length
                · have HG5 : Hid (gDec bs = .no false 7) := Lib.hid (by rw [HG4.out, gSize, if_neg hA, if_pos hB])
                  go_wp2_with (go_at_call 53; refine (gSize_big _ _ _ hB _).mono ?_; rintro e w8 ⟨rfl, rfl⟩)
                  refine bodyPost_ret (v := .tuple #[zeroH, .slice none 0 0, .iface 32 (.int .i64 7)]) (by simp [results, Try.results62, go_sem, c0, c1, c2, c3, c4, zeroH]) rfl ?_
                  rw [HG5.out]
                  exact ⟨_, rfl, .num 7, F7.out.set5 (.inr (Nat.le_refl _)) _ _ _ _ _⟩
                · have HG5 : Hid (gDec bs = .ok s k key q seq r) := Lib.hid (by rw [HG4.out, gSize, if_neg hA, if_neg hB])
                  obtain ⟨a, rfl⟩ := O7.out.bs.some (by omega)
                  go_wp2_with (go_at_call 53; refine (gSize_ok _ _ _ (by omega) (by omega) _).mono ?_; rintro e w8 ⟨rfl, rfl⟩)
                  refine bodyPost_ret (v := .tuple #[.agg #[.bool s, .bool k, .int .u32 key, .bool q, .int .u32 seq], .slice (some a) r.length cap7, .nilIface]) (by simp [results, Try.results62, go_sem, c0, c1, c2, c3, c4]) rfl ?_
                  rw [HG5.out]
                  have ha := (O7.out.2.row a rfl).1
                  have hla := L7.out a rfl
                  refine ⟨a.block, cap7, by rw [← ha], ?_, F7.out.set5 (.inr (Nat.le_refl _)) _ _ _ _ _, Nat.le_trans hs6 hla⟩
                  rw [← ha]
                  exact O7.out.fr ((Fr.refl (Is w.heap.size) w7).set5 (.inl rfl) _ _ _ _ _) (by rintro a' ha' (hi : a'.block = w.heap.size); cases ha'; omega)

end Go.Proofs.Ythoppkklooomgaa