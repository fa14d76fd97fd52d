/- geneve: Decap. -/
import Derived.Test.YthoppkklooomgaaGen6
import Derived.Deep.DeepCutAuto
import Derived.BigQuiet
namespace Go.Proofs.Ythoppkklooomgaa
open Go.RowKit
set_option linter.unusedVariables false
/-- What comes out of bytes: an id, options and a frame, or what is wrong (inner: the reader told it). -/
inductive GnRes where
  | ok (id : Nat) (os : List Opt) (fs : List UInt8)
  | no (inner : Bool) (code : Int)
def gnK (bs : List UInt8) : Nat := 4 * (gnF0 bs % 64)
def gnFrame (id : Nat) (os : List Opt) (fs : List UInt8) : GnRes := if fs.length < 14 then .no false 2 else if 9000 < fs.length then .no false 7 else .ok id os fs
def gnDec (bs : List UInt8) : GnRes :=
  if bs.length < 8 then .no true 2
  else if 64 ≤ gnF0 bs ∨ 128 ≤ gnF1 bs then .no false 3
  else if gnF2 bs ≠ 25944 then .no false 12
  else if bs.length < 8 + gnK bs then .no true 2
  else match optsOf ((bs.drop 8).take (gnK bs)) with
    | none => .no false 3
    | some os => if gflag (anyCrit os) ≠ bits .and .u8 (gnF1 bs : Int) 64 then .no false 3 else gnFrame (gnF3 bs / 256) os (bs.drop (8 + gnK bs))

def GnOut (w : World) (r : GnRes) (e : Ending) (w' : World) : Prop :=
  match r with
  | .ok id os fs => ∃ ao n cap ad g gc, e = .returned (.tuple #[.int .u32 (id : Int), .slice ao n cap, .slice (some ⟨g, 0, none⟩) fs.length gc, .nilIface]) ∧ Ro (Iv w.heap.size g) w' ao n cap os ad ∧ OB w' 5 (some ⟨g, 0, none⟩) fs.length gc fs ∧ Fr No w w' ∧ w.heap.size ≤ g
  | .no inner code => ∃ b, e = .returned (.tuple #[.int .u32 0, .slice none 0 0, .slice none 0 0, .iface 107 (.pointer (some ⟨b, 0, none⟩))]) ∧ Err w' (.iface 107 (.pointer (some ⟨b, 0, none⟩))) (geneveS :: if inner then [octetsS] else []) code ∧ Fr No w w'

theorem Ro.iv {B g : Nat} {w : World} {ao : Option Addr} {n cap : Nat} {os : List Opt} {ad : List (Option Addr × Nat)} (h : Ro (Up B) w ao n cap os ad) (hg : w.heap.size ≤ g) : Ro (Iv B g) w ao n cap os ad :=
  ⟨h.len, h.adl, h.own, fun a ha => ⟨h.row a ha, by have := h.own.lt a ha; omega⟩, fun i o p ho hp => ⟨(h.ob i o p ho hp).1, fun a ha => ⟨⟨((h.ob i o p ho hp).2 a ha).1, by have := (h.ob i o p ho hp).1.2.lt a ha; omega⟩, ((h.ob i o p ho hp).2 a ha).2⟩⟩, h.dis, h.cls⟩

theorem and192 (k : Nat) (h : k < 256) : (bits .and .u8 (k : Int) 192 != 0) = decide (64 ≤ k) := by
  have : ∀ k : Nat, k < 256 → (bits .and .u8 (k : Int) 192 != 0) = decide (64 ≤ k) := by decide +kernel
  exact this k h
theorem and128 (k : Nat) (h : k < 256) : (bits .and .u8 (k : Int) 128 != 0) = decide (128 ≤ k) := by
  have : ∀ k : Nat, k < 256 → (bits .and .u8 (k : Int) 128 != 0) = decide (128 ≤ k) := by decide +kernel
  exact this k h
theorem and63 (k : Nat) (h : k < 256) : bits .and .u8 (k : Int) 63 = ((k % 64 : Nat) : Int) := by
  have : ∀ k : Nat, k < 256 → bits .and .u8 (k : Int) 63 = ((k % 64 : Nat) : Int) := by decide +kernel
  exact this k h
theorem be_small (l : List UInt8) (n : Nat) (h : l.length ≤ n) : be l < 256 ^ n := Nat.lt_of_lt_of_le (be_lt l) (Nat.pow_le_pow_right (by omega) h)
theorem gnF0_lt (bs : List UInt8) : gnF0 bs < 256 := be_small _ 1 (List.length_take_le _ _)
theorem gnF1_lt (bs : List UInt8) : gnF1 bs < 256 := be_small _ 1 (List.length_take_le _ _)
theorem gnF2_lt (bs : List UInt8) : gnF2 bs < 65536 := be_small _ 2 (List.length_take_le _ _)
theorem gnF3_lt (bs : List UInt8) : gnF3 bs < 4294967296 := be_small _ 4 (List.length_take_le _ _)

set_option maxHeartbeats 1600000 in
set_option maxRecDepth 100000 in
theorem gnDecap_any {w : World} {ao : Option Addr} {n cap : Nat} {bs : List UInt8} (hb : Bs w ao n cap bs) (hn : n ≤ 20000) : Calls Try.prog 44 #[.slice ao n cap] w (GnOut w (gnDec bs)) := by
  have HB := Lib.hid hb
  have hN : bs.length = n := hb.1.symm
  have HN := Lib.hid hN
  clear hb hN
  go_enter Try.func44, Try.ntmps44
  go_wp2_with fail
  refine (oread_any HB.out (by unfold big; omega)).mono ?_
  rintro e w1 ⟨rb, rfl, hrb, r1, f1⟩
  have R1 := Lib.hid r1
  have F1 := Lib.hid f1
  clear r1 f1
  go_wp2_with fail
  by_cases h8 : n < 8
  · have HG : Hid (gnDec bs = .no true 2) := Lib.hid (by unfold gnDec; rw [if_pos (by rw [HN.out]; exact h8)])
    refine (gnRead_no R1.out (fun i hi => hi.2) (by rw [HN.out]; exact h8)).mono ?_
    rintro e w2 ⟨v0, v1, v2, v3, b, rfl, he, f2⟩
    have F2 := Lib.hid (F1.out.then f2 (by rintro i hi rfl; omega))
    have HE := Lib.hid he
    clear he f2
    go_wp2_with fail
    refine (wrap_err _ (HE.out.no ((Fr.refl No w2).alloc _))).mono ?_
    rintro e w3 ⟨b', rfl, he', f3⟩
    have HE3 := Lib.hid he'
    have F3 := Lib.hid ((F2.out.alloc _).then_no f3)
    clear he' f3
    go_wp2_with fail
    refine bodyPost_ret (v := .tuple #[.int .u32 0, .slice none 0 0, .slice none 0 0, .iface 107 (.pointer (some ⟨b', 0, none⟩))]) (by simp [results, Try.results44, go_sem]) rfl ?_
    rw [HG.out]
    exact ⟨b', rfl, HE3.out, F3.out⟩
  · refine (gnRead_ok R1.out (fun i hi => hi.2) (by rw [HN.out]; omega)).mono ?_
    rintro e w2 ⟨rfl, r2, f2⟩
    have F2 := Lib.hid ((F1.out.then f2 (by rintro i hi rfl; omega)).alloc (.cells #[.int .u8 (gnF0 bs), .int .u8 (gnF1 bs), .int .u16 (gnF2 bs), .int .u32 (gnF3 bs)] 143))
    have R2 := Lib.hid (r2.no ((Fr.refl No w2).alloc (.cells #[.int .u8 (gnF0 bs), .int .u8 (gnF1 bs), .int .u16 (gnF2 bs), .int .u32 (gnF3 bs)] 143)))
    have X2 := Lib.hid (heap_alloc_new w2 (.cells #[.int .u8 (gnF0 bs), .int .u8 (gnF1 bs), .int .u16 (gnF2 bs), .int .u32 (gnF3 bs)] 143))
    have hrb2 : rb ≠ w2.heap.size := by
      obtain ⟨_, _, _, h, _⟩ := r2
      have := lt_of_heap h
      omega
    have HRB := Lib.hid hrb2
    clear r2 f2 R1 F1 hrb2
    have g0 := gnF0_lt bs
    have g1 := gnF1_lt bs
    have g2 := gnF2_lt bs
    have g3 := gnF3_lt bs
    have e0 := and192 _ g0
    have e1 := and128 _ g1
    have e2 := and63 _ g0
    obtain ⟨c0, c1, c2, c3⟩ := cells4 X2.out
    go_upto_region 5 with fail
    generalize w2.alloc (.cells #[.int .u8 (gnF0 bs), .int .u8 (gnF1 bs), .int .u16 (gnF2 bs), .int .u32 (gnF3 bs)] 143) = w3 at *
    by_cases hform : 64 ≤ gnF0 bs ∨ 128 ≤ gnF1 bs
    · have HG : Hid (gnDec bs = .no false 3) := Lib.hid (by unfold gnDec; rw [if_neg (by rw [HN.out]; exact h8), if_pos hform])
      by_cases ha : 64 ≤ gnF0 bs
      · rw [decide_eq_true ha] at e0
        go_wp2_with fail
        refine (wrap_err _ (Err.num 3)).mono ?_
        rintro e w4 ⟨b', rfl, he', f4⟩
        have HE4 := Lib.hid he'
        have F4 := Lib.hid (F2.out.then_no f4)
        clear he' f4
        go_wp2_with fail
        refine bodyPost_ret (v := .tuple #[.int .u32 0, .slice none 0 0, .slice none 0 0, .iface 107 (.pointer (some ⟨b', 0, none⟩))]) (by simp [results, Try.results44, go_sem]) rfl ?_
        rw [HG.out]
        exact ⟨b', rfl, HE4.out, F4.out⟩
      · have hb : 128 ≤ gnF1 bs := by omega
        rw [decide_eq_false ha] at e0
        rw [decide_eq_true hb] at e1
        go_wp2_with fail
        refine (wrap_err _ (Err.num 3)).mono ?_
        rintro e w4 ⟨b', rfl, he', f4⟩
        have HE4 := Lib.hid he'
        have F4 := Lib.hid (F2.out.then_no f4)
        clear he' f4
        go_wp2_with fail
        refine bodyPost_ret (v := .tuple #[.int .u32 0, .slice none 0 0, .slice none 0 0, .iface 107 (.pointer (some ⟨b', 0, none⟩))]) (by simp [results, Try.results44, go_sem]) rfl ?_
        rw [HG.out]
        exact ⟨b', rfl, HE4.out, F4.out⟩
    · have ha : ¬ 64 ≤ gnF0 bs := by omega
      have hb : ¬ 128 ≤ gnF1 bs := by omega
      rw [decide_eq_false ha] at e0
      rw [decide_eq_false hb] at e1
      by_cases hp : gnF2 bs = 25944
      · rw [hp] at c2
        have HP := Lib.hid hp
        have hk : ((4 : Int) * ((gnF0 bs : Int) % 64)) = ((gnK bs : Nat) : Int) := by unfold gnK; omega
        have hk4 : gnK bs % 4 = 0 := by unfold gnK; omega
        have hk2 : gnK bs ≤ 252 := by unfold gnK; omega
        have HK := Lib.hid hk
        clear hk
        go_wp2_with fail
        rw [HK.out]
        by_cases hs : n < 8 + gnK bs
        · have HG : Hid (gnDec bs = .no true 2) := Lib.hid (by unfold gnDec; rw [if_neg (by rw [HN.out]; exact h8), if_neg hform, if_neg (by rw [HP.out]; decide), if_pos (by rw [HN.out]; exact hs)])
          refine (rBytes_no R2.out (by have := HN.out; simp; omega)).mono ?_
          rintro e w4 ⟨b, rfl, he, f4⟩
          have HE4 := Lib.hid he
          have F4 := Lib.hid (F2.out.then_no f4)
          clear he f4
          go_wp2_with fail
          refine (wrap_err _ HE4.out).mono ?_
          rintro e w5 ⟨b', rfl, he', f5⟩
          have HE5 := Lib.hid he'
          have F5 := Lib.hid (F4.out.then_no f5)
          clear he' f5
          go_wp2_with fail
          refine bodyPost_ret (v := .tuple #[.int .u32 0, .slice none 0 0, .slice none 0 0, .iface 107 (.pointer (some ⟨b', 0, none⟩))]) (by simp [results, Try.results44, go_sem]) rfl ?_
          rw [HG.out]
          exact ⟨b', rfl, HE5.out, F5.out⟩
        · have HG0 : Hid (gnDec bs = match optsOf ((bs.drop 8).take (gnK bs)) with
            | none => .no false 3
            | some os => if gflag (anyCrit os) ≠ bits .and .u8 (gnF1 bs : Int) 64 then .no false 3 else gnFrame (gnF3 bs / 256) os (bs.drop (8 + gnK bs))) :=
            Lib.hid (by unfold gnDec; rw [if_neg (by rw [HN.out]; exact h8), if_neg hform, if_neg (by rw [HP.out]; decide), if_neg (by rw [HN.out]; exact hs)])
          refine (rBytes_ok R2.out (n := gnK bs) (by have := HN.out; simp; omega)).mono ?_
          rintro e w4 ⟨ao4, rfl, b4, r4, f4, o4⟩
          have F4 := Lib.hid (F2.out.then f4 (by rintro i hi rfl; omega))
          have R4 : Hid (Rd (Iv w.heap.size w1.heap.size) w4 rb (bs.drop (8 + gnK bs))) := Lib.hid (by rw [List.drop_drop] at r4; exact r4)
          have B4 := Lib.hid b4
          have X4 := Lib.hid (f4.heap X2.out (fun h => HRB.out h.symm))
          clear r4 b4 f4 o4 c0 c1 c2 c3 R2 F2 X2
          obtain ⟨c0, c1, c2, c3⟩ := cells4 X4.out
          go_wp2_with fail
          refine (gnOptions_any B4.out hk4 hk2).mono ?_
          cases ho : optsOf ((bs.drop 8).take (gnK bs)) with
          | none =>
            have HG : Hid (gnDec bs = .no false 3) := Lib.hid (by rw [HG0.out, ho])
            clear ho
            rintro e w5 ⟨rfl, f5⟩
            have F5 := Lib.hid (F4.out.then_no f5)
            obtain ⟨d0, d1, d2, d3⟩ := cells4 (f5.heap X4.out (fun h => h))
            clear f5 c0 c1 c2 c3
            go_wp2_with fail
            go_quiet (fail)
            go_wp2_with fail
            refine (wrap_err _ (Err.num 3)).mono ?_
            rintro e w6 ⟨b', rfl, he', f6⟩
            have HE6 := Lib.hid he'
            have F6 := Lib.hid ((F5.out.drewN _).then_no f6)
            clear he' f6
            go_wp2_with fail
            refine bodyPost_ret (v := .tuple #[.int .u32 0, .slice none 0 0, .slice none 0 0, .iface 107 (.pointer (some ⟨b', 0, none⟩))]) (by simp [results, Try.results44, go_sem]) rfl ?_
            rw [HG.out]
            exact ⟨b', rfl, HE6.out, F6.out⟩
          | some os =>
            have HO := Lib.hid ho
            clear ho
            have hrb4 : rb < w4.heap.size := by
              obtain ⟨_, _, _, h, _⟩ := R4.out
              exact lt_of_heap h
            have hw4 := F4.out.size
            rintro e w5 ⟨lo, ln, lc, ad, rfl, ro, f5⟩
            have F5 := Lib.hid (F4.out.then_no f5)
            have R5 := Lib.hid (R4.out.no f5)
            have RO := Lib.hid ro
            have X5 := Lib.hid (f5.heap X4.out (fun h => h))
            clear f5 c0 c1 c2 c3 R4 F4 X4
            obtain ⟨c0, c1, c2, c3⟩ := cells4 X5.out
            go_wp2_with fail
            by_cases hfl : gflag (anyCrit os) = bits .and .u8 (gnF1 bs : Int) 64
            · have HFL := Lib.hid hfl
              go_region_held3 (fun w' => w'.cell? ⟨w2.heap.size, 1, none⟩ = some (.int .u8 (gnF1 bs : Int))) (first | exact c1 | exact q1)
                (first | (go_at_call 35; refine (flags_any (RO.out.rs.no ((Fr.refl No w5).drew))).mono ?_; rintro e w6 ⟨rfl, f6⟩; have F6 := Lib.hid (((Fr.refl No w5).drew).then_no f6); have q1 := F6.out.cell c1 (fun h => h); clear f6))
              have FF := Lib.hid (F5.out.then_no F6.out)
              have RR := Lib.hid (RO.out.no F6.out)
              have R6 := Lib.hid (R5.out.no F6.out)
              have X6 := Lib.hid (F6.out.heap X5.out (fun h => h))
              clear c0 c1 c2 c3 q1 F5 F6 RO R5 X5
              obtain ⟨c0, c1, c2, c3⟩ := cells4 X6.out
              have HG1 : Hid (gnDec bs = gnFrame (gnF3 bs / 256) os (bs.drop (8 + gnK bs))) := Lib.hid (by rw [HG0.out, HO.out]; simp only []; rw [if_neg (by rw [HFL.out]; simp)])
              go_wp2_with fail
              refine (rRest_any R6.out).mono ?_
              rintro e w7 ⟨ao7, rfl, b7, r7, f7, o7⟩
              have hl : (bs.drop (8 + gnK bs)).length = n - (8 + gnK bs) := by rw [List.length_drop, HN.out]
              have HLN := Lib.hid hl
              rw [hl] at b7 ⊢
              have B7 := Lib.hid b7
              have F7 := Lib.hid (FF.out.then f7 (by rintro i hi rfl; omega))
              have RO7 : Hid (Ro (Up w.heap.size) w7 lo ln lc os ad) := Lib.hid ((RR.out.fr f7 (fun k hk e => by simp only [Up] at hk; simp only [Is] at e; omega)).mono (fun k hk => Nat.le_trans hw4 hk))
              have X7 := Lib.hid (f7.heap X6.out (fun h => HRB.out h.symm))
              clear b7 r7 f7 o7 hl c0 c1 c2 c3 RR R6 X6 FF
              obtain ⟨c0, c1, c2, c3⟩ := cells4 X7.out
              go_wp2_with fail
              refine (cloneB_any B7.out (by unfold big; omega)).mono ?_
              rintro e w8 ⟨ao8, cap8, rfl, b8, f8, h8'⟩
              have F8 := Lib.hid (F7.out.then_no f8)
              have B8 := Lib.hid b8
              have H8 := Lib.hid h8'
              have RO8 := Lib.hid (RO7.out.iv (Nat.le_refl _))
              have RO9 := Lib.hid (RO8.out.no f8)
              have X8 := Lib.hid (f8.heap X7.out (fun h => h))
              have hs7 := F7.out.size
              clear b8 f8 h8' c0 c1 c2 c3 X7
              obtain ⟨c0, c1, c2, c3⟩ := cells4 X8.out
              go_wp2_with fail
              by_cases hs1 : n - (8 + gnK bs) < 14
              · skip
                have HG : Hid (gnDec bs = .no false 2) := Lib.hid (by rw [HG1.out]; unfold gnFrame; rw [if_pos (by rw [HLN.out]; exact hs1)])
                refine (gnSize_no ao8 _ cap8 2 (by omega) _).mono ?_
                rintro e w9 ⟨b', rfl, he', f9⟩
                have HE9 := Lib.hid he'
                have F9 := Lib.hid (F8.out.then_no f9)
                clear he' f9
                go_wp2_with fail
                refine bodyPost_ret (v := .tuple #[.int .u32 0, .slice none 0 0, .slice none 0 0, .iface 107 (.pointer (some ⟨b', 0, none⟩))]) (by simp [results, Try.results44, go_sem]) rfl ?_
                rw [HG.out]
                exact ⟨b', rfl, HE9.out, F9.out⟩
              · by_cases hs2 : 9000 < n - (8 + gnK bs)
                · skip
                  have HG : Hid (gnDec bs = .no false 7) := Lib.hid (by rw [HG1.out]; unfold gnFrame; rw [if_neg (by rw [HLN.out]; exact hs1), if_pos (by rw [HLN.out]; exact hs2)])
                  refine (gnSize_no ao8 _ cap8 7 (by omega) _).mono ?_
                  rintro e w9 ⟨b', rfl, he', f9⟩
                  have HE9 := Lib.hid he'
                  have F9 := Lib.hid (F8.out.then_no f9)
                  clear he' f9
                  go_wp2_with fail
                  refine bodyPost_ret (v := .tuple #[.int .u32 0, .slice none 0 0, .slice none 0 0, .iface 107 (.pointer (some ⟨b', 0, none⟩))]) (by simp [results, Try.results44, go_sem]) rfl ?_
                  rw [HG.out]
                  exact ⟨b', rfl, HE9.out, F9.out⟩
                · have HG : Hid (gnDec bs = .ok (gnF3 bs / 256) os (bs.drop (8 + gnK bs))) := Lib.hid (by rw [HG1.out]; unfold gnFrame; rw [if_neg (by rw [HLN.out]; exact hs1), if_neg (by rw [HLN.out]; exact hs2)])
                  refine (gnSize_ok ao8 _ cap8 (by omega) (by omega) _).mono ?_
                  rintro e w9 ⟨rfl, rfl⟩
                  go_wp2_with fail
                  obtain ⟨x8, rfl⟩ := B8.out.bs.some (by rw [HLN.out]; omega)
                  have ha8 := (B8.out.2.row x8 rfl).1
                  have hx8 := H8.out x8 rfl
                  refine bodyPost_ret (v := .tuple #[.int .u32 ((gnF3 bs : Int) / 256), .slice lo ln lc, .slice (some x8) (n - (8 + gnK bs)) cap8, .nilIface]) (by simp [results, Try.results44, go_sem]) rfl ?_
                  rw [HG.out]
                  refine ⟨lo, ln, lc, ad, x8.block, cap8, ?_, RO9.out.mono (fun k hk => ⟨hk.1, Nat.lt_of_lt_of_le hk.2 hx8⟩), ?_, F8.out, Nat.le_trans hs7 hx8⟩
                  · rw [← ha8, HLN.out]; rfl
                  · rw [← ha8, HLN.out]; exact B8.out
            · have HG : Hid (gnDec bs = .no false 3) := Lib.hid (by rw [HG0.out, HO.out]; simp only []; rw [if_pos hfl])
              go_region_held3 (fun w' => w'.cell? ⟨w2.heap.size, 1, none⟩ = some (.int .u8 (gnF1 bs : Int))) (first | exact c1 | exact q1)
                (first | (go_at_call 35; refine (flags_any (RO.out.rs.no ((Fr.refl No w5).drew))).mono ?_; rintro e w6 ⟨rfl, f6⟩; have F6 := Lib.hid (((Fr.refl No w5).drew).then_no f6); have q1 := F6.out.cell c1 (fun h => h); clear f6))
              have FF := Lib.hid (F5.out.then_no F6.out)
              go_wp2_with fail
              refine (wrap_err _ (Err.num 3)).mono ?_
              rintro e w7 ⟨b', rfl, he', f7⟩
              have HE7 := Lib.hid he'
              have F7 := Lib.hid (FF.out.then_no f7)
              clear he' f7
              go_wp2_with fail
              refine bodyPost_ret (v := .tuple #[.int .u32 0, .slice none 0 0, .slice none 0 0, .iface 107 (.pointer (some ⟨b', 0, none⟩))]) (by simp [results, Try.results44, go_sem]) rfl ?_
              rw [HG.out]
              exact ⟨b', rfl, HE7.out, F7.out⟩
      · have HG : Hid (gnDec bs = .no false 12) := Lib.hid (by unfold gnDec; rw [if_neg (by rw [HN.out]; exact h8), if_neg hform, if_pos hp])
        have hp2 : ¬ ((gnF2 bs : Int) = 25944) := by omega
        go_wp2_with fail
        refine (wrap_err _ (Err.num 12)).mono ?_
        rintro e w4 ⟨b', rfl, he', f4⟩
        have HE4 := Lib.hid he'
        have F4 := Lib.hid (F2.out.then_no f4)
        clear he' f4
        go_wp2_with fail
        refine bodyPost_ret (v := .tuple #[.int .u32 0, .slice none 0 0, .slice none 0 0, .iface 107 (.pointer (some ⟨b', 0, none⟩))]) (by simp [results, Try.results44, go_sem]) rfl ?_
        rw [HG.out]
        exact ⟨b', rfl, HE4.out, F4.out⟩

end Go.Proofs.Ythoppkklooomgaa