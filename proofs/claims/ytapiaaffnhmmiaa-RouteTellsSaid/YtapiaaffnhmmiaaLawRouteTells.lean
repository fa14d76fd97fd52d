/- RouteTells: its walk. -/
import Derived.Test.YtapiaaffnhmmiaaRt13
import Derived.Deep.RegionHeld3
import Derived.Deep.DeepCutAuto
import Derived.Deep.CutBlock
namespace Go.Proofs.Ytapiaaffnhmmiaa
open Go.RowKit
set_option linter.unusedVariables false
set_option linter.unusedSimpArgs false

/-- One step, told by both. -/
def Told (m : RL) (x : St8) (c : Int) (rs' : List Rt) : Prop := stepCode m x = c ∧ TR (stepTo m x) rs'
theorem told_add {m : RL} {rs rs' : List Rt} {x : St8} {c : Int} (h : TR m rs) (g : Good m) (hk : x.kind = 0 ∨ x.kind = 1) (ha : AddR rs x.r c rs') : Told m x c rs' := by
  unfold Told stepCode stepTo
  rw [if_pos hk, if_pos hk]
  exact h.add g ha
theorem told_cut {m : RL} {rs rs' : List Rt} {x : St8} {c : Int} (h : TR m rs) (g : Good m) (hk : x.kind = 2) (ha : AddR rs (cutR x.r) c rs') : Told m x c rs' := by
  unfold Told stepCode stepTo
  have h1 : ¬ (x.kind = 0 ∨ x.kind = 1) := by omega
  rw [if_neg h1, if_neg h1, if_pos hk, if_pos hk]
  exact h.add g ha
theorem told_del {m : RL} {rs rs' : List Rt} {x : St8} {c : Int} (h : TR m rs) (g : Good m) (hk : x.kind = 3) (ha : DelR rs x.r.dst x.r.bits c rs') : Told m x c rs' := by
  unfold Told stepCode stepTo
  have h1 : ¬ (x.kind = 0 ∨ x.kind = 1) := by omega
  have h2 : ¬ x.kind = 2 := by omega
  rw [if_neg h1, if_neg h1, if_neg h2, if_neg h2, if_pos hk, if_pos hk]
  exact h.del g ha
theorem told_none {m : RL} {rs : List Rt} {x : St8} (h : TR m rs) (hk : ¬ (x.kind = 0 ∨ x.kind = 1) ∧ x.kind ≠ 2 ∧ x.kind ≠ 3) : Told m x 0 rs := by
  unfold Told stepCode stepTo
  rw [if_neg hk.1, if_neg hk.1, if_neg hk.2.1, if_neg hk.2.1, if_neg hk.2.2, if_neg hk.2.2]
  exact ⟨rfl, h⟩

theorem cells6 {w : World} {b : Nat} {c0 c1 c2 c3 c4 c5 : Value} {e : TypeId} {f : Nat × Nat} (h : w.heap[b]? = some (.cells #[c0, c1, c2, c3, c4, c5] e f)) :
    w.cell? ⟨b, 0, none⟩ = some c0 ∧ w.cell? ⟨b, 1, none⟩ = some c1 ∧ w.cell? ⟨b, 2, none⟩ = some c2 ∧ w.cell? ⟨b, 3, none⟩ = some c3 ∧ w.cell? ⟨b, 4, none⟩ = some c4 ∧ w.cell? ⟨b, 5, none⟩ = some c5 :=
  ⟨by rw [cell_of_row w b 0 _ e f h]; rfl, by rw [cell_of_row w b 1 _ e f h]; rfl, by rw [cell_of_row w b 2 _ e f h]; rfl, by rw [cell_of_row w b 3 _ e f h]; rfl, by rw [cell_of_row w b 4 _ e f h]; rfl, by rw [cell_of_row w b 5 _ e f h]; rfl⟩

set_option maxRecDepth 100000 in
set_option maxHeartbeats 8000000 in
theorem RouteTells_walk {w : World} {ao : Option Addr} {n cap : Nat} {xs : List St8} (hs : Ss w ao n cap xs) :
    Calls Try.prog 3 #[.slice ao n cap] w (ShownP w) := by
  have hn := hs.1
  have hc1 := hs.2.1.le
  have hc2 := hs.2.1.capLe
  have HS := Lib.hid hs
  have HN := Lib.hid hn
  clear hs hn
  go_enter Try.func3, Try.ntmps3
  go_wp2_with (first | (go_at_call 9; refine (l8shown_any _).mono ?_; rintro e w1 ⟨rfl, f1⟩; have F1 := Lib.hid f1; clear f1) | (go_at_call 10; refine (rtNew_any _).mono ?_; rintro e w2 ⟨rfl, t2, f2⟩; have T2 := Lib.hid t2; have F2 := Lib.hid f2; clear t2 f2))
  have hb2 := lt_of_heap T2.out.box
  have hmw : w.heap.size ≤ w1.heap.size := F1.out.size
  have R2 := Lib.hid (show R8 (w2.alloc (.cells #[.slice none 0 0] 29)) w2.heap.size none 0 0 [] from ⟨heap_alloc_new w2 _, rfl, Own.nil _ _ _, fun a h => (by cases h)⟩)
  have T2' := Lib.hid (T2.out.no ((Fr.refl No w2).alloc (.cells #[.slice none 0 0] 29)))
  have F2' := Lib.hid ((F1.out.then_no F2.out).alloc (.cells #[.slice none 0 0] 29))
  generalize w2.alloc (.cells #[.slice none 0 0] 29) = w3 at R2 T2' F2' ⊢
  generalize w2.heap.size = rb at R2 hb2 ⊢
  obtain ⟨mb, hmb⟩ : ∃ mb, w1.heap.size = mb := ⟨_, rfl⟩
  rw [hmb] at T2' hmw hb2 ⊢
  clear hmb F1 F2 T2
  go_loopw [6] (fun t6 wr => ∃ (k : Nat) (m : RL) (rs : List Rt) (ro : Option Addr) (rn rc : Nat), k ≤ n ∧ k ≤ 200 ∧ t6 = .int .i64 k ∧ RTb wr (mb + 1) mb m ∧ Good m ∧ R8 wr rb ro rn rc rs ∧ TR m rs ∧ Fr No w wr) (fun t6 _ => n - (intOf t6).toNat)
  case atStart => exact ⟨0, [], [], none, 0, 0, by omega, by omega, rfl, T2'.out, Good.nil, R2.out, TR.nil, F2'.out⟩
  case round =>
    clear R2 T2' F2'
    obtain ⟨k, m, rs, ro, rn, rc, hk, hk2, rfl, ht, hg, hr8, htr, hf⟩ := hrel
    have HT := Lib.hid ht
    have HG := Lib.hid hg
    have HR := Lib.hid hr8
    have HTR := Lib.hid htr
    have HF := Lib.hid hf
    clear ht hg hr8 htr hf
    by_cases hlt : k < n ∧ k < 200
    · obtain ⟨l1, l2⟩ := hlt
      obtain ⟨x, hx⟩ : ∃ x, xs[k]? = some x := ⟨xs[k]'(by rw [← HN.out]; exact l1), List.getElem?_eq_getElem _⟩
      obtain ⟨a, rfl, hsp, c0, c1, c2, c3, c4, c5⟩ := (HS.out.no HF.out).at hx
      have hxo := HS.out.2.2 x (List.mem_of_getElem? hx)
      obtain ⟨ab, aoff, asp⟩ := a
      simp only at hsp c0 c1 c2 c3 c4 c5
      subst hsp
      obtain ⟨kd, ⟨d, b, v, o⟩, ip⟩ := x
      have HXO := Lib.hid hxo
      obtain ⟨-, hro, hi0, hi1⟩ := hxo
      have HRO := Lib.hid hro
      obtain ⟨⟨hd0, hd1⟩, -⟩ := hro
      simp only at c0 c1 c2 c3 c4 c5 hi0 hi1 hd0 hd1
      have hrbw : rb < wr.heap.size := lt_of_heap HR.out.box
      have hrol := HR.out.own.lt
      have HROL := Lib.hid hrol
      clear hx hrol
      go_upto_block 2 with fail
      have fx := ((Fr.refl No wr).alloc (.cells #[.int .i64 kd, .int .u32 d, .int .i64 b, .int .u32 v, .int .i64 o, .int .u32 ip] 35)).alloc (.cells #[.int .u32 d, .int .i64 b, .int .u32 v, .int .i64 o] 36)
      have x6 := ((Fr.refl No _).alloc (.cells #[.int .u32 d, .int .i64 b, .int .u32 v, .int .i64 o] 36)).heap (heap_alloc_new wr (.cells #[.int .i64 kd, .int .u32 d, .int .i64 b, .int .u32 v, .int .i64 o, .int .u32 ip] 35)) (fun h => h)
      have x4 := heap_alloc_new (wr.alloc (.cells #[.int .i64 kd, .int .u32 d, .int .i64 b, .int .u32 v, .int .i64 o, .int .u32 ip] 35)) (.cells #[.int .u32 d, .int .i64 b, .int .u32 v, .int .i64 o] 36)
      rw [show (wr.alloc (.cells #[.int .i64 kd, .int .u32 d, .int .i64 b, .int .u32 v, .int .i64 o, .int .u32 ip] 35)).heap.size = wr.heap.size + 1 from by simp] at x4
      have X6 := Lib.hid x6
      have X4 := Lib.hid x4
      have TA := Lib.hid (HT.out.no fx)
      have RA := Lib.hid (HR.out.no fx)
      have FA := Lib.hid (HF.out.then_no fx)
      have hbx : wr.heap.size = wr.heap.size := rfl
      clear fx x6 x4 HT HR HF c0 c1 c2 c3 c4 c5
      generalize (wr.alloc (.cells #[.int .i64 kd, .int .u32 d, .int .i64 b, .int .u32 v, .int .i64 o, .int .u32 ip] 35)).alloc (.cells #[.int .u32 d, .int .i64 b, .int .u32 v, .int .i64 o] 36) = wa at X6 X4 TA RA FA ⊢
      obtain ⟨bx, hbx⟩ : ∃ bx, wr.heap.size = bx := ⟨_, rfl⟩
      have HROB : Hid (∀ a, ro = some a → a.block < bx) := Lib.hid (by rw [← hbx]; exact HROL.out)
      rw [hbx] at X6 X4 hrbw ⊢
      clear hbx HROL
      obtain ⟨x0, x1, x2, x3, x4, x5⟩ := cells6 X6.out
      obtain ⟨r0, r1, r2, r3⟩ := cells4 X4.out
      have hml : m.length ≤ 64 := HG.out.len
      have hrl : rs.length ≤ 64 := by rw [HTR.out.len HG.out]; exact hml
      go_cut [9] (fun t9 wc => ∃ (ro' : Option Addr) (rn' rc' : Nat) (rs' : List Rt) (c : Int), t9 = .int .i64 c ∧ R8 wc rb ro' rn' rc' rs' ∧ Told m ⟨kd, ⟨d, b, v, o⟩, ip⟩ c rs' ∧ RTb wc (mb + 1) mb m ∧ wc.heap[bx]? = some (.cells #[.int .i64 kd, .int .u32 d, .int .i64 b, .int .u32 v, .int .i64 o, .int .u32 ip] 35 (0, 0)) ∧ Fr No w wc)
      case first =>
        have HS8 : Hid (∀ i, S8 rb ro i → i = rb ∨ rb < i) := Lib.hid (by
          rintro i (h | ⟨a, h1, h2⟩)
          · exact .inl h
          · exact .inr (by have := RA.out.sep a h1; omega))
        have HS9 : Hid (¬ S8 rb ro bx) := Lib.hid (by
          rintro (h | ⟨a, h1, h2⟩)
          · omega
          · have := HROB.out a h1; omega)
        by_cases h01 : kd = 0 ∨ kd = 1
        · rcases h01 with rfl | rfl
          all_goals
            go_wp2_with fail
            refine (r8Add_any RA.out (r := ⟨d, b, v, o⟩) HRO.out hrl).mono ?_
            rintro e w4 ⟨ro', rn', rc', rs', c, rfl, ha, hr4, -, f4⟩
            have HA := Lib.hid ha
            have R4 := Lib.hid hr4
            have F4 := Lib.hid f4
            clear ha hr4 f4 x0 x1 x2 x3 x4 x5 r0 r1 r2 r3
            go_wp2_with fail
            go_meet
            refine ⟨ro', rn', rc', rs', c, rfl, R4.out, told_add HTR.out HG.out (by simp) HA.out, TA.out.fr F4.out (fun h => ?_) (fun h => ?_), F4.out.heap X6.out HS9.out, FA.out.then F4.out (fun i hi h => ?_)⟩
            · have := HS8.out _ h; omega
            · have := HS8.out _ h; omega
            · have := HS8.out _ h; omega
        · by_cases h2 : kd = 2
          · subst h2
            obtain ⟨cd, hcd⟩ : ∃ cd, cutN d b = cd := ⟨_, rfl⟩
            have HCD := Lib.hid hcd
            have hce : evR (cutR ⟨d, b, v, o⟩) = .agg #[.int .u32 cd, .int .i64 b, .int .u32 v, .int .i64 o] := by rw [← hcd]; rfl
            have HCE := Lib.hid hce
            have HCO := Lib.hid (cutR_ok HRO.out)
            obtain ⟨p0, p1, p2, p3⟩ := free4 X4.out
            clear hcd hce h01
            go_wp2_with fail
            refine (r8Cut_eq _ hd0 hd1 HCD.out).mono ?_
            rintro e wz ⟨rfl, rfl⟩
            go_wp2_with fail
            have fs : Fr (Is (bx + 1)) wa (wa.setCell ⟨bx + 1, 0, none⟩ (.int .u32 cd)) := (Fr.refl (Is (bx + 1)) wa).setCell (p := ⟨bx + 1, 0, none⟩) (.inl rfl) _
            have RS := Lib.hid (RA.out.fr fs (show ¬ _ = _ by omega) (fun a ha (h : _ = _) => by have := HROB.out a ha; omega))
            have TS := Lib.hid (TA.out.fr fs (show ¬ _ = _ by omega) (show ¬ _ = _ by omega))
            have XS := Lib.hid (fs.heap X6.out (show ¬ _ = _ by omega))
            have FS := Lib.hid (FA.out.then fs (fun i hi (h : _ = _) => by omega))
            clear fs x0 x1 x2 x3 x4 x5 r0 r1 r2 r3 p0 p1 p2 p3 RA TA X6 FA X4
            generalize wa.setCell ⟨bx + 1, 0, none⟩ (.int .u32 cd) = ws at RS TS XS FS ⊢
            rw [← HCE.out]
            refine (r8Add_any RS.out (r := cutR ⟨d, b, v, o⟩) HCO.out hrl).mono ?_
            rintro e w4 ⟨ro', rn', rc', rs', c, rfl, ha, hr4, -, f4⟩
            have HA := Lib.hid ha
            have R4 := Lib.hid hr4
            have F4 := Lib.hid f4
            clear ha hr4 f4
            go_wp2_with fail
            go_meet
            refine ⟨ro', rn', rc', rs', c, rfl, R4.out, told_cut HTR.out HG.out rfl HA.out, TS.out.fr F4.out (fun h => ?_) (fun h => ?_), F4.out.heap XS.out HS9.out, FS.out.then F4.out (fun i hi h => ?_)⟩
            · have := HS8.out _ h; omega
            · have := HS8.out _ h; omega
            · have := HS8.out _ h; omega
          · by_cases h3 : kd = 3
            · subst h3
              go_wp2_with fail
              refine (r8Del_any RA.out d b hrl).mono ?_
              rintro e w4 ⟨ro', rn', rc', rs', c, rfl, ha, hr4, -, f4⟩
              have HA := Lib.hid ha
              have R4 := Lib.hid hr4
              have F4 := Lib.hid f4
              clear ha hr4 f4 x0 x1 x2 x3 x4 x5 r0 r1 r2 r3
              go_wp2_with fail
              go_meet
              refine ⟨ro', rn', rc', rs', c, rfl, R4.out, told_del HTR.out HG.out rfl HA.out, TA.out.fr F4.out (fun h => ?_) (fun h => ?_), F4.out.heap X6.out HS9.out, FA.out.then F4.out (fun i hi h => ?_)⟩
              · have := HS8.out _ h; omega
              · have := HS8.out _ h; omega
              · have := HS8.out _ h; omega
            · have h0 : ¬ kd = 0 := fun h => h01 (.inl h)
              have h1 : ¬ kd = 1 := fun h => h01 (.inr h)
              have HNK := Lib.hid h01
              clear h01
              go_wp2_with fail
              go_meet
              exact ⟨ro, rn, rc, rs, 0, rfl, RA.out, told_none HTR.out ⟨HNK.out, h2, h3⟩, TA.out, X6.out, FA.out⟩
      case rest =>
        obtain ⟨ro', rn', rc', rs', c, rfl, hr4, htd, ht4, hx4, hf4⟩ := hcut
        obtain ⟨hcode, htr'⟩ := htd
        have hg' : Good (stepTo m ⟨kd, ⟨d, b, v, o⟩, ip⟩) := HG.out.step HXO.out
        obtain ⟨m', hm'⟩ : ∃ m', stepTo m ⟨kd, ⟨d, b, v, o⟩, ip⟩ = m' := ⟨_, rfl⟩
        rw [hm'] at htr' hg'
        have RB := Lib.hid hr4
        have TB := Lib.hid ht4
        have XB := Lib.hid hx4
        have FB := Lib.hid hf4
        have HCODE := Lib.hid hcode
        have HM' := Lib.hid hm'
        have HTR' := Lib.hid htr'
        have HG' := Lib.hid hg'
        have hsep := Lib.hid hr4.sep
        obtain ⟨x0, x1, x2, x3, x4, x5⟩ := cells6 hx4
        clear hr4 ht4 hx4 hf4 hcode hm' htr' hg' X6 X4 TA RA FA HROB
        go_wp2_with fail
        refine (l8does_any TB.out hml ⟨kd, ⟨d, b, v, o⟩, ip⟩ HXO.out HCODE.out HM'.out).mono ?_
        rintro e w5 ⟨rfl, t5, f5⟩
        have T5 := Lib.hid t5
        have R5 := Lib.hid (RB.out.fr f5 (show ¬ _ = _ by omega) (fun a ha (h : _ = _) => by have := hsep.out a ha; omega))
        have X5 := Lib.hid (f5.heap XB.out (show ¬ _ = _ by omega))
        have F5 := Lib.hid (FB.out.then f5 (fun i hi (h : _ = _) => by omega))
        clear t5 f5 RB TB XB FB x0 x1 x2 x3 x4 x5 HCODE HM'
        obtain ⟨x0, x1, x2, x3, x4, x5⟩ := cells6 X5.out
        have hml' : m'.length ≤ 64 := HG'.out.len
        obtain ⟨fa, fb, fc, fd, one, u, hu, hu2, hud, huk⟩ : ∃ (a b c d : Int) (one : Bool) (u : Option Rt), findN m' ip 33 = u ∧ best8 ip rs' = u ∧ u.getD ⟨0, 0, 0, 0⟩ = ⟨a, b, c, d⟩ ∧ u.isSome = one :=
          ⟨_, _, _, _, _, findN m' ip 33, rfl, HTR'.out.find HG'.out ip, rfl, rfl⟩
        go_wp2_with fail
        refine (rtFind_any T5.out hi0 hi1 hu).mono ?_
        unfold FindP
        rw [hud, huk]
        simp only [evR]
        rintro e w6 ⟨rfl, f6⟩
        have fy := f6.alloc (.cells #[.int .u32 fa, .int .i64 fb, .int .u32 fc, .int .i64 fd] 33)
        have Y6 := Lib.hid (heap_alloc_new w6 (.cells #[.int .u32 fa, .int .i64 fb, .int .u32 fc, .int .i64 fd] 33))
        have T6 := Lib.hid (T5.out.no fy)
        have R6 := Lib.hid (R5.out.no fy)
        have X6 := Lib.hid (fy.heap X5.out (fun h => h))
        have F6 := Lib.hid (F5.out.then_no fy)
        clear f6 fy T5 R5 X5 F5 x0 x1 x2 x3 x4 x5
        obtain ⟨x0, x1, x2, x3, x4, x5⟩ := cells6 X6.out
        go_wp2_with fail
        generalize w6.heap.size = by6 at Y6 ⊢
        generalize w6.alloc (.cells #[.int .u32 fa, .int .i64 fb, .int .u32 fc, .int .i64 fd] 33) = w7 at Y6 T6 R6 X6 F6 x0 x1 x2 x3 x4 x5 ⊢
        refine (r8Find_any R6.out hi0 hi1 hu2).mono ?_
        unfold FindP
        rw [hud, huk]
        simp only [evR]
        rintro e w8 ⟨rfl, f8⟩
        have fy := f8.alloc (.cells #[.int .u32 fa, .int .i64 fb, .int .u32 fc, .int .i64 fd] 36)
        have Z8 := Lib.hid (heap_alloc_new w8 (.cells #[.int .u32 fa, .int .i64 fb, .int .u32 fc, .int .i64 fd] 36))
        have Y8 := Lib.hid (fy.heap Y6.out (fun h => h))
        have T8 := Lib.hid (T6.out.no fy)
        have R8' := Lib.hid (R6.out.no fy)
        have X8 := Lib.hid (fy.heap X6.out (fun h => h))
        have F8 := Lib.hid (F6.out.then_no fy)
        clear f8 fy T6 R6 X6 Y6 F6 x0 x1 x2 x3 x4 x5 hud huk hu hu2
        go_wp2_with fail
        generalize w8.heap.size = bz8 at Z8 ⊢
        generalize w8.alloc (.cells #[.int .u32 fa, .int .i64 fb, .int .u32 fc, .int .i64 fd] 36) = w9 at Y8 Z8 T8 R8' X8 F8 ⊢
        refine (rtList_any T8.out (by omega)).mono ?_
        rintro e w10 ⟨lo, ln, lc, ys, rfl, hln, hpm, hps, how, -, f10⟩
        have hys : ys = rs' := HTR'.out.list HG'.out hpm hps
        subst hys
        have T10 := Lib.hid (T8.out.no f10)
        have R10 := Lib.hid (R8'.out.no f10)
        have X10 := Lib.hid (f10.heap X8.out (fun h => h))
        have Y10 := Lib.hid (f10.heap Y8.out (fun h => h))
        have Z10 := Lib.hid (f10.heap Z8.out (fun h => h))
        have F10 := Lib.hid (F8.out.then_no f10)
        have L10 := Lib.hid how
        have hlr : ln = rn' := by rw [hln, R10.out.len]
        subst hlr
        have HLN := Lib.hid hln
        clear f10 T8 R8' X8 Y8 Z8 F8 hpm hps how hln
        obtain ⟨cq, hcq⟩ : ∃ cq, cutN ip b = cq := ⟨_, rfl⟩
        have HCQ := Lib.hid hcq
        clear hcq
        go_upto_region 25 with fail
        go_cut [134] (fun t wc => t = .bool false ∧ Fr No w10 wc)
        case first =>
          have SF : Hid (∀ W, Fr No w10 W → W.cell? ⟨by6, 0, none⟩ = some (.int .u32 fa) ∧ W.cell? ⟨by6, 1, none⟩ = some (.int .i64 fb) ∧ W.cell? ⟨by6, 2, none⟩ = some (.int .u32 fc) ∧ W.cell? ⟨by6, 3, none⟩ = some (.int .i64 fd) ∧
              W.cell? ⟨bz8, 0, none⟩ = some (.int .u32 fa) ∧ W.cell? ⟨bz8, 1, none⟩ = some (.int .i64 fb) ∧ W.cell? ⟨bz8, 2, none⟩ = some (.int .u32 fc) ∧ W.cell? ⟨bz8, 3, none⟩ = some (.int .i64 fd) ∧
              W.cell? ⟨bx, 2, none⟩ = some (.int .i64 b) ∧ W.cell? ⟨bx, 5, none⟩ = some (.int .u32 ip) ∧ W.cell? ⟨rb, 0, none⟩ = some (.slice ro' ln rc')) := Lib.hid (by
            intro W f
            obtain ⟨a0, a1, a2, a3⟩ := cells4 (f.heap Y10.out (fun h => h))
            obtain ⟨b0, b1, b2, b3⟩ := cells4 (f.heap Z10.out (fun h => h))
            obtain ⟨c0, c1, c2, c3, c4, c5⟩ := cells6 (f.heap X10.out (fun h => h))
            exact ⟨a0, a1, a2, a3, b0, b1, b2, b3, c2, c5, (R10.out.no f).cell⟩)
          go_region_held3 (fun W => W.cell? ⟨by6, 0, none⟩ = some (.int .u32 fa) ∧ W.cell? ⟨by6, 1, none⟩ = some (.int .i64 fb) ∧ W.cell? ⟨by6, 2, none⟩ = some (.int .u32 fc) ∧ W.cell? ⟨by6, 3, none⟩ = some (.int .i64 fd) ∧
              W.cell? ⟨bz8, 0, none⟩ = some (.int .u32 fa) ∧ W.cell? ⟨bz8, 1, none⟩ = some (.int .i64 fb) ∧ W.cell? ⟨bz8, 2, none⟩ = some (.int .u32 fc) ∧ W.cell? ⟨bz8, 3, none⟩ = some (.int .i64 fd) ∧
              W.cell? ⟨bx, 2, none⟩ = some (.int .i64 b) ∧ W.cell? ⟨bx, 5, none⟩ = some (.int .u32 ip) ∧ W.cell? ⟨rb, 0, none⟩ = some (.slice ro' ln rc'))
            (first | exact SF.out _ gS.out | exact SF.out _ (Fr.refl _ _).drew)
            (first
              | (go_at_call 18; refine (l8same_any ⟨fa, fb, fc, fd⟩ ⟨fa, fb, fc, fd⟩ _ (c := true) (by simp)).mono ?_; rintro e wS ⟨rfl, fS⟩; have gS := Lib.hid ((Fr.refl No w10).drew.then_no fS); clear fS)
              | (go_at_call 19; refine (rtCut_eq _ hi0 hi1 HCQ.out).mono ?_; rintro e wC ⟨rfl, rfl⟩)
              | (go_at_call 12; refine (r8Cut_eq _ hi0 hi1 HCQ.out).mono ?_; rintro e wC ⟨rfl, rfl⟩))
          all_goals go_wp2_with fail
          all_goals go_meet
          all_goals exact ⟨rfl, gS.out⟩
        case rest =>
          obtain ⟨rfl, f11⟩ := hcut
          have R11 := Lib.hid (R10.out.no f11)
          have T11 := Lib.hid (T10.out.no f11)
          have L11 := Lib.hid (L10.out.no f11)
          have F11 := Lib.hid (F10.out.then_no f11)
          clear f11 R10 T10 L10 F10 X10 Y10 Z10
          have hln64 : ln ≤ 64 := by have := HLN.out; have := HTR'.out.len HG'.out; omega
          have hlc := L11.out.le
          have hlc2 := L11.out.capLe
          have hrc := R11.out.own.le
          have hrc2 := R11.out.own.capLe
          go_wp2_with fail
          go_loopw [16] (fun t16 wr => ∃ j : Nat, j ≤ ln ∧ t16 = .int .i64 j ∧ R8 wr rb ro' ln rc' ys ∧ RTb wr (mb + 1) mb m' ∧ Own wr 33 4 lo ln lc (ys.flatMap encR) ∧ Fr No w wr) (fun t16 _ => ln - (intOf t16).toNat)
          case atStart => exact ⟨0, by omega, rfl, R11.out, T11.out, L11.out, F11.out⟩
          case round =>
            clear R11 T11 L11 F11
            obtain ⟨j, hj, rfl, hr, htt, hl, hf⟩ := hrel
            have RR := Lib.hid hr
            have TT := Lib.hid htt
            have LL := Lib.hid hl
            have HF := Lib.hid hf
            clear hr htt hl hf
            by_cases hlt2 : j < ln
            · obtain ⟨y, hy⟩ : ∃ y, ys[j]? = some y := ⟨ys[j]'(by rw [← HLN.out]; exact hlt2), List.getElem?_eq_getElem _⟩
              obtain ⟨gb, goff, rfl, y0, y1, y2, y3⟩ := rows4_any HLN.out RR.out.own.sl hy
              obtain ⟨gl, gloff, rfl, z0, z1, z2, z3⟩ := rows4_any HLN.out LL.out.sl hy
              have kt := RR.out.cell
              obtain ⟨yd, yb, yv, yo⟩ := y
              simp only at y0 y1 y2 y3 z0 z1 z2 z3
              have bj : (j : Int) < (ln : Int) := by omega
              have bj0 : (0 : Int) ≤ (j : Int) := by omega
              clear hy
              go_upto_region 30 with fail
              go_cut [153] (fun t wc => t = .bool false ∧ Fr No wr wc)
              case first =>
                have SF : Hid (∀ W, Fr No wr W → W.cell? ⟨rb, 0, none⟩ = some (.slice (some ⟨gb, goff, none⟩) ln rc') ∧
                    W.cell? ⟨gl, gloff + j * 4, none⟩ = some (.int .u32 yd) ∧ W.cell? ⟨gl, gloff + j * 4 + 1, none⟩ = some (.int .i64 yb) ∧ W.cell? ⟨gl, gloff + j * 4 + 2, none⟩ = some (.int .u32 yv) ∧ W.cell? ⟨gl, gloff + j * 4 + 3, none⟩ = some (.int .i64 yo) ∧
                    W.cell? ⟨gb, goff + j * 4, none⟩ = some (.int .u32 yd) ∧ W.cell? ⟨gb, goff + j * 4 + 1, none⟩ = some (.int .i64 yb) ∧ W.cell? ⟨gb, goff + j * 4 + 2, none⟩ = some (.int .u32 yv) ∧ W.cell? ⟨gb, goff + j * 4 + 3, none⟩ = some (.int .i64 yo)) := Lib.hid (fun W f =>
                  ⟨(RR.out.no f).cell, f.cell z0 (fun h => h), f.cell z1 (fun h => h), f.cell z2 (fun h => h), f.cell z3 (fun h => h), f.cell y0 (fun h => h), f.cell y1 (fun h => h), f.cell y2 (fun h => h), f.cell y3 (fun h => h)⟩)
                go_region_held3 (fun W => W.cell? ⟨rb, 0, none⟩ = some (.slice (some ⟨gb, goff, none⟩) ln rc') ∧
                    W.cell? ⟨gl, gloff + j * 4, none⟩ = some (.int .u32 yd) ∧ W.cell? ⟨gl, gloff + j * 4 + 1, none⟩ = some (.int .i64 yb) ∧ W.cell? ⟨gl, gloff + j * 4 + 2, none⟩ = some (.int .u32 yv) ∧ W.cell? ⟨gl, gloff + j * 4 + 3, none⟩ = some (.int .i64 yo) ∧
                    W.cell? ⟨gb, goff + j * 4, none⟩ = some (.int .u32 yd) ∧ W.cell? ⟨gb, goff + j * 4 + 1, none⟩ = some (.int .i64 yb) ∧ W.cell? ⟨gb, goff + j * 4 + 2, none⟩ = some (.int .u32 yv) ∧ W.cell? ⟨gb, goff + j * 4 + 3, none⟩ = some (.int .i64 yo))
                  (first | exact SF.out _ gS.out | exact SF.out _ (Fr.refl _ _).drew)
                  ((go_at_call 18; refine (l8same_any ⟨yd, yb, yv, yo⟩ ⟨yd, yb, yv, yo⟩ _ (c := true) (by simp)).mono ?_; rintro e wS ⟨rfl, fS⟩; have gS := Lib.hid ((Fr.refl No wr).drew.then_no fS); clear fS))
                all_goals go_wp2_with fail
                all_goals go_meet
                all_goals exact ⟨rfl, gS.out⟩
              case rest =>
                obtain ⟨rfl, f12⟩ := hcut
                have F12 := Lib.hid f12
                clear f12 y0 y1 y2 y3 z0 z1 z2 z3 kt
                go_wp2_with fail
                go_roundw
                case rel => exact ⟨j + 1, by omega, by go_num, RR.out.no F12.out, TT.out.no F12.out, LL.out.no F12.out, HF.out.then_no F12.out⟩
                case measure => simp [intOf]; omega
            · go_wp2_with fail
              go_roundw
              case rel => exact ⟨k + 1, m', ys, ro', ln, rc', by omega, by omega, by go_num, TT.out, HG'.out, RR.out, HTR'.out, HF.out⟩
              case measure => simp [intOf]; omega
    · have hcase : ¬ k < n ∨ (k < n ∧ ¬ k < 200) := by omega
      clear hlt
      rcases hcase with hlt | ⟨hlt, hlt2⟩
      all_goals
        go_wp2_with fail
        go_ret
        exact ⟨rfl, HF.out⟩
end Go.Proofs.Ytapiaaffnhmmiaa
