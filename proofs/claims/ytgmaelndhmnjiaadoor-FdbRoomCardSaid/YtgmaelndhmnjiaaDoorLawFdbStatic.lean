/- FdbStatic. -/
import Derived.Test.YtgmaelndhmnjiaaDoorLawFdbForgets
import Derived.Deep.DeepCutAuto
import Derived.Deep.CutBlock
namespace Go.Proofs.YtgmaelndhmnjiaaDoor
open Go.RowKit
set_option linter.unusedVariables false
set_option linter.unusedSimpArgs false

/-- Whom the row says is static at a place. -/
def Held (A : AL) (m : Mac) (p : Pl) : Prop := ∃ e ∈ A, e.mac = m ∧ e.pl = p ∧ e.st = true
theorem Held.put {A : AL} {m : Mac} {p : Pl} (h : Held A m p) {e : En} (hne : e.mac ≠ m) : Held (aput A e) m p := by
  obtain ⟨x, h1, h2, h3, h4⟩ := h
  exact ⟨x, mem_aput.2 (.inr ⟨h1, by rw [h2]; exact fun h => hne h.symm⟩), h2, h3, h4⟩
theorem Held.del {A : AL} {m : Mac} {p : Pl} (h : Held A m p) {k : Mac} (hne : k ≠ m) : Held (adel A k) m p := by
  obtain ⟨x, h1, h2, h3, h4⟩ := h
  exact ⟨x, mem_adel.2 ⟨h1, by rw [h2]; exact fun h => hne h.symm⟩, h2, h3, h4⟩
theorem Held.add {A : AL} {m : Mac} {p : Pl} (h : Held A m p) (hs : Sor A) (room : Int) {e : En} (hne : e.mac ≠ m) : Held (aadd room A e).2 m p := by
  unfold aadd
  split
  · exact h.put hne
  · split
    · exact h
    · rename_i q hq
      obtain ⟨h1, h2, h3⟩ := aleast_some hs hq
      refine (h.del ?_).put hne
      intro hqm
      obtain ⟨x, g1, g2, g3, g4⟩ := h
      rw [hs.inj h1 g1 (hqm.trans g2.symm), g4] at h2
      cases h2
theorem Held.learn {A : AL} {m : Mac} {p : Pl} (h : Held A m p) (hs : Sor A) (room : Int) (k : Mac) (q : Pl) (now : Int) : Held (alearn room A k q now).2.2 m p := by
  unfold alearn
  split
  · exact h
  · split
    · rename_i hg
      refine h.add hs room ?_
      obtain ⟨x, g1, g2, g3, g4⟩ := h
      intro (hkm : k = m)
      exact aget_none.1 hg x g1 (g2.trans hkm.symm)
    · rename_i e hg
      obtain ⟨h1, h2⟩ := (aget_some hs).1 hg
      simp only
      split
      · exact h
      · rename_i hst
        refine h.put ?_
        intro (hkm : k = m)
        obtain ⟨x, g1, g2, g3, g4⟩ := h
        rw [hs.inj h1 g1 (by rw [h2, g2, hkm])] at hst
        exact hst g4
theorem Held.static {A : AL} {m : Mac} {p : Pl} (h : Held A m p) (hs : Sor A) (room : Int) {k : Mac} (hkm : k ≠ m) (q : Pl) : Held (astatic room A k q).2 m p := by
  unfold astatic
  split
  · exact h
  · split
    · exact h.add hs room hkm
    · exact h.put hkm
theorem Held.forget {A : AL} {m : Mac} {p : Pl} (h : Held A m p) {q : Pl} (hq : q ≠ p) : Held (aforget A q) m p := by
  obtain ⟨x, h1, h2, h3, h4⟩ := h
  exact ⟨x, List.mem_filter.2 ⟨h1, by simp only [Bool.not_eq_true', decide_eq_false_iff_not]; rw [h3]; exact fun h => hq h.symm⟩, h2, h3, h4⟩
theorem Held.tick {A : AL} {m : Mac} {p : Pl} (h : Held A m p) (life now : Int) : Held (atick life A now) m p := by
  obtain ⟨x, h1, h2, h3, h4⟩ := h
  exact ⟨x, List.mem_filter.2 ⟨h1, by simp [oldE, h4]⟩, h2, h3, h4⟩
/-- The steps that are left out. -/
def skipS (x : Stp) (m : Mac) (p : Pl) : Prop := (x.kind = 3 ∧ x.mac = m) ∨ (x.kind = 5 ∧ x.mac = m) ∨ (x.kind = 4 ∧ x.pl = p)
theorem Held.does {A : AL} {m : Mac} {p : Pl} (h : Held A m p) (hs : Sor A) (room life : Int) {x : Stp} (hx : ¬ skipS x m p) (now : Int) : Held (adoes room life A x now) m p := by
  unfold skipS at hx
  unfold adoes
  by_cases h0 : x.kind = 0 ∨ x.kind = 1 ∨ x.kind = 2
  · rw [if_pos h0]; exact h.learn hs _ _ _ _
  · rw [if_neg h0]
    by_cases h3 : x.kind = 3
    · rw [if_pos h3]; exact h.static hs _ (fun hm => hx (.inl ⟨h3, hm⟩)) _
    · rw [if_neg h3]
      by_cases h4 : x.kind = 4
      · rw [if_pos h4]; exact h.forget (fun hm => hx (.inr (.inr ⟨h4, hm⟩)))
      · rw [if_neg h4]
        by_cases h5 : x.kind = 5
        · rw [if_pos h5]; exact h.del (fun hm => hx (.inr (.inl ⟨h5, hm⟩)))
        · rw [if_neg h5]
          split
          · exact h.tick _ _
          · exact h
theorem Held.find {A : AL} {m : Mac} {p : Pl} (h : Held A m p) (hs : Sor A) (life now : Int) : afind life A m now = some p := by
  obtain ⟨x, h1, h2, h3, h4⟩ := h
  unfold afind
  rw [(aget_some hs).2 ⟨h1, h2⟩]
  simp [oldE, h4, h3]
theorem Held.start {room : Int} {m : Mac} (p : Pl) (hm : grpM m = false) (hr : 1 ≤ room) : astatic room [] m p = (0, [⟨m, p.tun, p.n, 0, true⟩]) ∧ Held [⟨m, p.tun, p.n, 0, true⟩] m p := by
  constructor
  · unfold astatic aadd
    rw [hm]
    simp [aget, aput]
    omega
  · exact ⟨_, List.mem_singleton.2 rfl, rfl, rfl, rfl⟩
def skipB (kd : Int) (mc : Mac) (q : Pl) (m : Mac) (p : Pl) : Bool := (kd == 3 && decide (mc = m)) || (kd == 5 && decide (mc = m)) || (kd == 4 && decide (q = p))
theorem skipB_of {kd : Int} {mc : Mac} {q : Pl} {b : UInt8} {m : Mac} {p : Pl} (h : skipB kd mc q m p = false) : ¬ skipS ⟨kd, mc, q, b⟩ m p := by
  unfold skipB at h
  unfold skipS
  simp only [Bool.or_eq_false_iff, Bool.and_eq_false_iff, beq_eq_false_iff_ne, decide_eq_false_iff_not] at h
  obtain ⟨⟨h1, h2⟩, h3⟩ := h
  rintro (⟨a, b⟩ | ⟨a, b⟩ | ⟨a, b⟩)
  · rcases h1 with h1 | h1 <;> exact h1 (by assumption)
  · rcases h2 with h1 | h1 <;> exact h1 (by assumption)
  · rcases h3 with h1 | h1 <;> exact h1 (by assumption)

set_option maxRecDepth 100000 in
set_option maxHeartbeats 8000000 in
theorem FdbStatic_walk {w : World} (hg : EG w) (room : Int) {life : Int} (hl0 : 0 ≤ life) (hl1 : life < 18446744073709551616) (m : Mac) (p : Pl) (hp : -9223372036854775808 ≤ p.n ∧ p.n ≤ 9223372036854775807) {ao : Option Addr} {n cap : Nat} {xs : List Stp} (hs : Ss15 w ao n cap xs) :
    Calls Tryd.prog 6 #[.int .i64 room, .int .u64 life, evM m, evPL p, .slice ao n cap] w (ShownF w) := by
  have HGA := Lib.hid hg
  have HS := Lib.hid hs
  have HN := Lib.hid hs.1
  have hc1 := hs.2.1.le
  have hc2 := hs.2.1.capLe
  clear hg hs
  obtain ⟨pt, pn⟩ := p
  have HP := Lib.hid hp
  clear hp
  unfold evPL evM byteV
  simp only
  go_enter Tryd.func6, Tryd.ntmps6
  go_wp2_with fail
  obtain ⟨o1, ho1⟩ : ∃ o : Obj, o = .cells #[.int .u8 m.a.toNat, .int .u8 m.b.toNat, .int .u8 m.c.toNat, .int .u8 m.d.toNat, .int .u8 m.e.toNat, .int .u8 m.f.toNat] 31 := ⟨_, rfl⟩
  obtain ⟨o2, ho2⟩ : ∃ o : Obj, o = .cells #[.bool pt, .int .i64 pn] 33 := ⟨_, rfl⟩
  rw [← ho1, ← ho2]
  have f1 := ((Fr.refl No w).alloc o1).alloc o2
  have b1 : ((w.alloc o1).alloc o2).heap[w.heap.size]? = some o1 := ((Fr.refl No _).alloc o2).heap (heap_alloc_new w o1) (fun h => h)
  have b2 : ((w.alloc o1).alloc o2).heap[w.heap.size + 1]? = some o2 := by
    have h1 := heap_alloc_new (w.alloc o1) o2
    rwa [show (w.alloc o1).heap.size = w.heap.size + 1 from by simp] at h1
  subst ho1 ho2
  have F1 := Lib.hid f1
  have B1 := Lib.hid b1
  have C1 := Lib.hid b2
  clear f1 b1 b2
  generalize World.alloc _ _ = w1 at B1 C1 F1 ⊢
  refine (l15shown_any (HGA.out.no F1.out)).mono ?_
  rintro e w2 ⟨rfl, f2⟩
  have B2 := Lib.hid (f2.heap B1.out (fun h => h))
  have C2 := Lib.hid (f2.heap C1.out (fun h => h))
  have F2 := Lib.hid (F1.out.then_no f2)
  clear f2 B1 F1 C1
  go_wp2_with fail
  obtain ⟨rm, hrm⟩ : ∃ rm, min (max room 1) 64 = rm := ⟨_, rfl⟩
  have hrm1 : 1 ≤ rm := by omega
  refine (fbNew_n w2 room life hl0 hl1 hrm).mono ?_
  rintro e w3 ⟨tb, mb, rfl, h3, f3⟩
  have H3 := Lib.hid h3
  have S2 := Lib.hid F2.out.size
  have B3 := Lib.hid (f3.heap B2.out (fun h => h))
  have C3 := Lib.hid (f3.heap C2.out (fun h => h))
  have F3 := Lib.hid (F2.out.then_no f3)
  clear h3 f3 F2 B2 C2 hrm
  obtain ⟨B, hB⟩ : ∃ B, w2.heap.size = B := ⟨_, rfl⟩
  rw [hB] at H3 S2
  clear hB
  obtain ⟨gm, hgm⟩ : ∃ g, grpM m = g := ⟨_, rfl⟩
  have HGM := Lib.hid hgm
  obtain ⟨c0, c1, c2, c3, c4, c5⟩ := cells6 B3.out
  obtain ⟨q0, q1⟩ := cells2 C3.out
  clear hgm
  go_wp2_with fail
  cases gm
  · refine (fbStatic_n H3.out m ⟨pt, pn⟩ HP.out (Held.start ⟨pt, pn⟩ HGM.out hrm1).1).mono ?_
    rintro e w4 ⟨rfl, h4, f4, k4⟩
    have H4 := Lib.hid h4
    have F4 := Lib.hid (F3.out.upb S2.out f4)
    have B4 := Lib.hid (k4 _ _ B3.out rfl)
    have C4 := Lib.hid (k4 _ _ C3.out rfl)
    have HH := Lib.hid (Held.start ⟨pt, pn⟩ HGM.out hrm1).2
    clear h4 f4 k4 H3 F3 B3 C3 c0 c1 c2 c3 c4 c5 q0 q1
    obtain ⟨c0, c1, c2, c3, c4, c5⟩ := cells6 B4.out
    go_wp2_with fail
    refine (fbGroup_any m w4).mono ?_
    rw [HGM.out]
    rintro e w5 ⟨rfl, f5⟩
    have H5 := Lib.hid (H4.out.no f5)
    have F5 := Lib.hid (F4.out.then_no f5)
    have B5 := Lib.hid (f5.heap B4.out (fun h => h))
    have C5 := Lib.hid (f5.heap C4.out (fun h => h))
    clear f5 H4 F4 B4 C4 c0 c1 c2 c3 c4 c5
    go_wp2_with fail
    go_loopw [14, 15] (fun t14 t15 wr => ∃ (k : Nat) (nw : Int) (A : AL), k ≤ n ∧ k ≤ 300 ∧ t15 = .int .i64 k ∧ t14 = .int .u64 nw ∧ 0 ≤ nw ∧ nw ≤ 255 * (k : Int) ∧ Held A m ⟨pt, pn⟩ ∧ FdN B wr tb mb rm life A ∧ Fr No w wr ∧
      wr.heap[w.heap.size]? = some (.cells #[.int .u8 m.a.toNat, .int .u8 m.b.toNat, .int .u8 m.c.toNat, .int .u8 m.d.toNat, .int .u8 m.e.toNat, .int .u8 m.f.toNat] 31 (0, 0)) ∧ wr.heap[w.heap.size + 1]? = some (.cells #[.bool pt, .int .i64 pn] 33 (0, 0)))
      (fun _ t15 _ => n - (intOf t15).toNat)
    case atStart => exact ⟨0, 0, _, by omega, by omega, rfl, rfl, by omega, by omega, HH.out, H5.out, F5.out, B5.out, C5.out⟩
    case round =>
      clear H5 F5 B5 C5 HH
      obtain ⟨k, nw, A, hk, hk2, rfl, rfl, hw0, hw1, hh, h4, f4, b4, c4⟩ := hrel
      have HH := Lib.hid hh
      have H4 := Lib.hid h4
      have F4 := Lib.hid f4
      have B4 := Lib.hid b4
      have C4 := Lib.hid c4
      clear hh h4 f4 b4 c4
      by_cases hlt : k < n ∧ k < 300
      · obtain ⟨l1, l2⟩ := hlt
        obtain ⟨⟨kd, mc, ⟨qt, qn⟩, by_⟩, hx⟩ : ∃ x, xs[k]? = some x := ⟨xs[k]'(by rw [← HN.out]; exact l1), List.getElem?_eq_getElem _⟩
        obtain ⟨a, rfl, hsp, c0, c1, c2, c3, c4, c5, c6, c7, c8, c9⟩ := (HS.out.no F4.out).at hx
        have HXO := Lib.hid (HS.out.2.2 _ (List.mem_of_getElem? hx))
        obtain ⟨ab, aoff, asp⟩ := a
        unfold byteV at c1 c2 c3 c4 c5 c6 c9
        simp only at hsp c0 c1 c2 c3 c4 c5 c6 c7 c8 c9
        subst hsp
        have by0 : (by_.toNat : Int) < 256 := by have := by_.toNat_lt; omega
        have by1 : (0 : Int) ≤ (by_.toNat : Int) := by omega
        clear hx
        go_upto_region 14 with fail
        have H4l := Lib.hid H4.out.le.2.2.2.1
        have fx := (Fr.refl No wr).alloc (.cells #[.int .i64 kd, .int .u8 mc.a.toNat, .int .u8 mc.b.toNat, .int .u8 mc.c.toNat, .int .u8 mc.d.toNat, .int .u8 mc.e.toNat, .int .u8 mc.f.toNat, .bool qt, .int .i64 qn, .int .u8 by_.toNat] 46)
        have X6 := Lib.hid (heap_alloc_new wr (.cells #[.int .i64 kd, .int .u8 mc.a.toNat, .int .u8 mc.b.toNat, .int .u8 mc.c.toNat, .int .u8 mc.d.toNat, .int .u8 mc.e.toNat, .int .u8 mc.f.toNat, .bool qt, .int .i64 qn, .int .u8 by_.toNat] 46))
        have HA := Lib.hid (H4.out.no fx)
        have FA := Lib.hid (F4.out.then_no fx)
        have BA := Lib.hid (fx.heap B4.out (fun h => h))
        have CA := Lib.hid (fx.heap C4.out (fun h => h))
        clear fx H4 F4 B4 C4 c0 c1 c2 c3 c4 c5 c6 c7 c8 c9
        generalize wr.heap.size = xb at X6 ⊢
        generalize wr.alloc (.cells #[.int .i64 kd, .int .u8 mc.a.toNat, .int .u8 mc.b.toNat, .int .u8 mc.c.toNat, .int .u8 mc.d.toNat, .int .u8 mc.e.toNat, .int .u8 mc.f.toNat, .bool qt, .int .i64 qn, .int .u8 by_.toNat] 46) = wa at X6 HA FA BA CA ⊢
        obtain ⟨c0, c1, c2, c3, c4, c5, c6, c7, c8, c9⟩ := cells10 X6.out
        obtain ⟨m0, m1, m2, m3, m4, m5⟩ := cells6 BA.out
        obtain ⟨q0, q1⟩ := cells2 CA.out
        obtain ⟨sk, hsk⟩ : ∃ sk, skipB kd mc ⟨qt, qn⟩ m ⟨pt, pn⟩ = sk := ⟨_, rfl⟩
        have HSK := Lib.hid hsk
        go_cut [91] (fun t91 wc => t91 = .bool sk ∧ wc = wa)
        case first =>
          have em := eqM mc m
          have ep := eqPl ⟨qt, qn⟩ ⟨pt, pn⟩
          unfold skipB at hsk
          simp only [evM, byteV] at em
          simp only [evPL] at ep
          obtain ⟨bm, hbm⟩ : ∃ b, decide (mc = m) = b := ⟨_, rfl⟩
          obtain ⟨bp, hbp⟩ : ∃ b, decide ((⟨qt, qn⟩ : Pl) = ⟨pt, pn⟩) = b := ⟨_, rfl⟩
          rw [hbm] at em hsk
          rw [hbp] at ep hsk
          clear hbm hbp HSK
          by_cases k3 : kd = 3
          · subst k3
            cases bm
            · have hs : sk = false := by rw [← hsk]; simp
              subst hs
              clear hsk
              go_wp2_with fail
              go_meet
              case rel => exact ⟨rfl, rfl⟩
            · have hs : sk = true := by rw [← hsk]; simp
              subst hs
              clear hsk
              go_wp2_with fail
              go_meet
              case rel => exact ⟨rfl, rfl⟩
          · have e3 : (kd == 3) = false := by simpa using k3
            by_cases k5 : kd = 5
            · subst k5
              cases bm
              · have hs : sk = false := by rw [← hsk]; simp
                subst hs
                clear hsk
                go_wp2_with fail
                go_meet
                case rel => exact ⟨rfl, rfl⟩
              · have hs : sk = true := by rw [← hsk]; simp
                subst hs
                clear hsk
                go_wp2_with fail
                go_meet
                case rel => exact ⟨rfl, rfl⟩
            · have e5 : (kd == 5) = false := by simpa using k5
              by_cases k4 : kd = 4
              · subst k4
                cases bp
                · have hs : sk = false := by rw [← hsk]; simp
                  subst hs
                  clear hsk
                  go_wp2_with fail
                  go_meet
                  case rel => exact ⟨rfl, rfl⟩
                · have hs : sk = true := by rw [← hsk]; simp
                  subst hs
                  clear hsk
                  go_wp2_with fail
                  go_meet
                  case rel => exact ⟨rfl, rfl⟩
              · have e4 : (kd == 4) = false := by simpa using k4
                have hs : sk = false := by rw [← hsk, e3, e4, e5]; simp
                subst hs
                clear hsk
                go_wp2_with fail
                go_meet
                case rel => exact ⟨rfl, rfl⟩
        case rest =>
          obtain ⟨rfl, rfl⟩ := hcut
          clear hsk
          cases sk
          · go_wp2_with fail
            have HD := Lib.hid (HH.out.does H4l.out rm life (skipB_of (b := by_) HSK.out) (nw + (by_.toNat : Int)))
            refine (l15does_n HA.out ⟨kd, mc, ⟨qt, qn⟩, by_⟩ HXO.out (now := nw + (by_.toNat : Int)) (by omega) (by omega) rfl).mono ?_
            rintro e w6 ⟨rfl, h6, f6, k6⟩
            have H6 := Lib.hid h6
            have F6 := Lib.hid (FA.out.upb S2.out f6)
            have B6 := Lib.hid (k6 _ _ BA.out rfl)
            have C6 := Lib.hid (k6 _ _ CA.out rfl)
            obtain ⟨A', hA'⟩ : ∃ A', adoes rm life A ⟨kd, mc, ⟨qt, qn⟩, by_⟩ (nw + (by_.toNat : Int)) = A' := ⟨_, rfl⟩
            rw [hA'] at H6 HD
            clear h6 f6 k6 HA FA BA CA hA' c0 c1 c2 c3 c4 c5 c6 c7 c8 c9 m0 m1 m2 m3 m4 m5 q0 q1 HSK X6
            obtain ⟨m0, m1, m2, m3, m4, m5⟩ := cells6 B6.out
            simp only [Act.put]
            go_wp2_with fail
            refine (fbFind_n H6.out m (now := nw + (by_.toNat : Int)) (by omega) (by omega) (HD.out.find H6.out.le.2.2.2.1 _ _)).mono ?_
            rintro e w7 ⟨rfl, f7⟩
            have H7 := Lib.hid (H6.out.no f7)
            have F7 := Lib.hid (F6.out.then_no f7)
            have B7 := Lib.hid (f7.heap B6.out (fun h => h))
            have C7 := Lib.hid (f7.heap C6.out (fun h => h))
            clear f7 H6 F6 B6 C6 m0 m1 m2 m3 m4 m5
            simp only [Option.getD_some, Option.isSome_some, evPL]
            obtain ⟨q0, q1⟩ := cells2 C7.out
            have hql := lt_of_heap C7.out
            have hne := neqPl ⟨pt, pn⟩ ⟨pt, pn⟩
            simp only [evPL, decide_true, Bool.not_true] at hne
            go_wp2_with fail
            have fz := (Fr.refl No w7).alloc (.cells #[.bool pt, .int .i64 pn] 33)
            have H8 := Lib.hid (H7.out.no fz)
            have F8 := Lib.hid (F7.out.then_no fz)
            have B8 := Lib.hid (fz.heap B7.out (fun h => h))
            have C8 := Lib.hid (fz.heap C7.out (fun h => h))
            clear fz H7 F7 B7 C7 q0 q1 hql hne
            go_roundw
            case rel => exact ⟨k + 1, nw + (by_.toNat : Int), A', by omega, by omega, by go_num, rfl, by omega, by omega, HD.out, H8.out, F8.out, B8.out, C8.out⟩
            case measure => simp [intOf]; omega
          · clear c0 c1 c2 c3 c4 c5 c6 c7 c8 c9 m0 m1 m2 m3 m4 m5 q0 q1
            go_wp2_with fail
            go_roundw
            case rel => exact ⟨k + 1, nw + (by_.toNat : Int), A, by omega, by omega, by go_num, rfl, by omega, by omega, HH.out, HA.out, FA.out, BA.out, CA.out⟩
            case measure => simp [intOf]; omega
      · have hst : ¬ k < n ∨ (k < n ∧ ¬ k < 300) := by omega
        rcases hst with l1 | ⟨l1, l2⟩
        all_goals go_wp2_with fail
        all_goals go_ret
        all_goals exact ⟨rfl, F4.out⟩
  · refine (fbStatic_n H3.out m ⟨pt, pn⟩ HP.out (c := 1) (A' := []) (by unfold astatic; rw [HGM.out]; rfl)).mono ?_
    rintro e w4 ⟨rfl, h4, f4, k4⟩
    have H4 := Lib.hid h4
    have F4 := Lib.hid (F3.out.upb S2.out f4)
    have B4 := Lib.hid (k4 _ _ B3.out rfl)
    clear h4 f4 k4 H3 F3 B3 C3 c0 c1 c2 c3 c4 c5 q0 q1
    obtain ⟨c0, c1, c2, c3, c4, c5⟩ := cells6 B4.out
    go_wp2_with fail
    refine (fbGroup_any m w4).mono ?_
    rw [HGM.out]
    rintro e w5 ⟨rfl, f5⟩
    have H5 := Lib.hid (H4.out.no f5)
    have F5 := Lib.hid (F4.out.then_no f5)
    clear f5 H4 F4 B4 c0 c1 c2 c3 c4 c5
    go_wp2_with fail
    refine (fbList_n H5.out).mono ?_
    rintro e w6 ⟨lo, lc, rfl, ho, hln, f6⟩
    have F6 := Lib.hid (F5.out.then_no f6)
    clear f6 ho hln H5 F5
    rw [show ([] : AL).length = 0 from rfl]
    go_wp2_with fail
    go_ret
    exact ⟨rfl, F6.out⟩
end Go.Proofs.YtgmaelndhmnjiaaDoor
