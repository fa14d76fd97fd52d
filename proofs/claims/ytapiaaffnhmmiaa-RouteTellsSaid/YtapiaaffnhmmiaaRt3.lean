/- route: Del, Find. -/
import Derived.Test.YtapiaaffnhmmiaaRt2
import Derived.Deep.RegionWith
import Derived.Deep.DeepCutAuto
namespace Go.Proofs.Ytapiaaffnhmmiaa
open Go.RowKit
set_option linter.unusedVariables false
set_option linter.unusedSimpArgs false

def DelOut (l : List ((Int × Int) × Rt)) (k : Int × Int) (c : Int) (l' : List ((Int × Int) × Rt)) : Prop :=
  (mget l k = none ∧ c = 6 ∧ l' = l) ∨ (mget l k ≠ none ∧ c = 0 ∧ l' = mdel l k)

set_option maxRecDepth 100000 in
set_option maxHeartbeats 400000 in
theorem rtDel_any {w : World} {tb mb : Nat} {l : List ((Int × Int) × Rt)} (h : RTb w tb mb l) {d b : Int} (hok : okK (d, b))
    {c : Int} {l' : List ((Int × Int) × Rt)} (ho : DelOut l (d, b) c l') :
    Calls Try.prog 21 #[.pointer (some ⟨tb, 0, none⟩), .int .u32 d, .int .i64 b] w (AddP w tb mb c l') := by
  have hlt := h.mp.lt
  have hlt2 := lt_of_heap h.box
  have H := Lib.hid h
  have HO := Lib.hid ho
  clear h ho
  go_enter Try.func21, Try.ntmps21
  go_wp2
  generalize hwv : World.alloc _ _ = wv
  have FV : Fr No w wv := by rw [← hwv]; exact (Fr.refl _ _).alloc _
  have b5 : wv.heap[w.heap.size]? = some (.cells #[.int .u32 d, .int .i64 b] 62 (0, 0)) := by rw [← hwv]; exact heap_alloc_new _ _
  have sv : wv.heap.size = w.heap.size + 1 := by rw [← hwv]; simp
  clear hwv
  have T1 := H.out.no FV
  have k0 := cell_of_row wv _ 0 _ _ _ b5
  have k1 := cell_of_row wv _ 1 _ _ _ b5
  have kt := T1.cell
  simp only [List.getElem?_toArray, List.getElem?_cons_zero, List.getElem?_cons_succ] at k0 k1
  have L1 : ∀ W : World, MpR W mb l → (Instr.lookup 56 (.map (some mb)) (.agg #[.int .u32 d, .int .i64 b]) true).run Try.prog W = _ := fun W h => h.look keR Try.underlying56 zeroRt hok true
  have lt1 : w.heap.size < wv.heap.size := by omega
  have lt3 : tb < wv.heap.size := by omega
  have lt4 : mb < wv.heap.size := by omega
  have L2 := L1 wv.drew (T1.mp.of_heap rfl)
  have L3 := fun o => L1 (wv.alloc o).drew (T1.mp.of_heap (w' := (wv.alloc o).drew) (Below.heap_alloc _ _ _ T1.mp.lt))
  clear L1
  have HT1 := Lib.hid T1
  have HB5 := Lib.hid b5
  clear T1 b5 sv
  obtain ⟨g, hg⟩ : ∃ g, mget l (d, b) = g := ⟨_, rfl⟩
  rw [hg] at L2 L3
  have HG := Lib.hid hg
  clear hg
  cases g
  all_goals
    rename_i HG
    simp only [Option.map_none, Option.map_some, Option.getD_none, Option.getD_some, Option.isSome_none, Option.isSome_some, if_true, evR] at L2 L3
    go_region
    clear L2 L3
    generalize hwx : World.drew _ = wx
    have FX : Fr No wv wx := by rw [← hwx]; exact ((Fr.refl No wv).alloc _).drew
    have TX := HT1.out.no FX
    have x5 := FX.heap HB5.out (fun h => h)
    have y0 := cell_of_row wx.drew _ 0 _ _ _ x5
    have y1 := cell_of_row wx.drew _ 1 _ _ _ x5
    have yt := TX.cell
    simp only [List.getElem?_toArray, List.getElem?_cons_zero, List.getElem?_cons_succ] at y0 y1
    obtain ⟨w2, hp, m2, f2, s2⟩ := Mp.del (ty := 0) (w := wx.drew) (TX.mp.of_heap rfl) keR Try.underlying56 hok
    simp only [ekK] at hp
    have HTX := Lib.hid TX
    have HM2 := Lib.hid m2
    have HF2 := Lib.hid ((FV.trans FX).drew.of_no.trans f2)
    have HFX := Lib.hid (FV.trans FX)
    clear hwx TX FX x5 m2 f2 s2
  · go_wp2
    go_ret
    rcases HO.out with ⟨-, rfl, rfl⟩ | ⟨h, -⟩
    · exact ⟨rfl, HTX.out, HFX.out.of_no⟩
    · exact absurd HG.out h
  · go_wp2
    go_region
    go_wp2
    go_ret
    rcases HO.out with ⟨h, -⟩ | ⟨-, rfl, rfl⟩
    · rw [HG.out] at h; cases h
    · exact ⟨rfl, ⟨HF2.out.heap H.out.box (fun h => H.out.ne h), HM2.out⟩, HF2.out⟩

/-- The longest one of at most n - 1 bits. -/
def findN (l : List ((Int × Int) × Rt)) (ip : Int) : Nat → Option Rt
  | 0 => none
  | n + 1 => match mget l (cutN ip n, n) with
    | some r => some r
    | none => findN l ip n
def FindP (w : World) (o : Option Rt) (e : Ending) (w' : World) : Prop := e = .returned (.tuple #[evR (o.getD ⟨0, 0, 0, 0⟩), .bool o.isSome]) ∧ Fr No w w'

set_option maxRecDepth 100000 in
set_option maxHeartbeats 1000000 in
theorem rtFind_any {w : World} {tb mb : Nat} {l : List ((Int × Int) × Rt)} (h : RTb w tb mb l) {ip : Int} (h0 : 0 ≤ ip) (h1 : ip < 4294967296)
    {x : Option Rt} (hx : findN l ip 33 = x) :
    Calls Try.prog 15 #[.pointer (some ⟨tb, 0, none⟩), .int .u32 ip] w (FindP w x) := by
  have hlt := h.mp.lt
  have hlt2 := lt_of_heap h.box
  have H := Lib.hid h
  have HX := Lib.hid hx
  clear h hx
  go_enter Try.func15, Try.ntmps15
  go_wp2
  generalize hwv : World.alloc _ _ = wv
  have FV : Fr No w wv := by rw [← hwv]; exact (Fr.refl _ _).alloc _
  have b5 : wv.heap[w.heap.size]? = some (.cells #[.int .u32 0, .int .i64 0, .int .u32 0, .int .i64 0] 33 (0, 0)) := by rw [← hwv]; exact heap_alloc_new _ _
  clear hwv
  have HFV := Lib.hid FV
  have HB := Lib.hid b5
  clear FV b5
  go_loopw [5, 6] (fun t5 t6 wr => ∃ n : Nat, n ≤ 33 ∧ t5 = .bool false ∧ t6 = .int .i64 ((n : Int) - 1) ∧ findN l ip n = x ∧ Fr No w wr ∧ wr.heap[w.heap.size]? = some (.cells #[.int .u32 0, .int .i64 0, .int .u32 0, .int .i64 0] 33 (0, 0))) (fun _ t6 _ => ((intOf t6) + 1).toNat)
  case atStart => exact ⟨33, by omega, rfl, rfl, HX.out, HFV.out, HB.out⟩
  case round =>
    clear HX HFV HB
    obtain ⟨n, hn, rfl, rfl, hfn, hfr, hbr⟩ := hrel
    have HN := Lib.hid hfn
    have HF := Lib.hid hfr
    have HB := Lib.hid hbr
    clear hfn
    cases n with
    | zero =>
      have hn0 : ((0 : Nat) : Int) - 1 = -1 := rfl
      rw [hn0]
      have b0 := cell_of_row wr _ 0 _ _ _ HB.out
      have b1 := cell_of_row wr _ 1 _ _ _ HB.out
      have b2 := cell_of_row wr _ 2 _ _ _ HB.out
      have b3 := cell_of_row wr _ 3 _ _ _ HB.out
      simp only [List.getElem?_toArray, List.getElem?_cons_zero, List.getElem?_cons_succ] at b0 b1 b2 b3
      have z0 := frozen_of_row wr _ 0 _ _ HB.out
      have z1 := frozen_of_row wr _ 1 _ _ HB.out
      have z2 := frozen_of_row wr _ 2 _ _ HB.out
      have z3 := frozen_of_row wr _ 3 _ _ HB.out
      clear hn0 hbr
      go_wp2_with fail
      refine bodyPost_ret (v := .tuple #[evR ⟨0, 0, 0, 0⟩, .bool false]) (by simp [results, Try.results15, go_sem, b0, b1, b2, b3, evR]) rfl ?_
      rw [← HN.out]
      exact ⟨rfl, (HF.out.setCell (p := ⟨w.heap.size, 0, none⟩) (.inr (Nat.le_refl _)) _).setCell (p := ⟨w.heap.size, 1, none⟩) (.inr (Nat.le_refl _)) _ |>.setCell (p := ⟨w.heap.size, 2, none⟩) (.inr (Nat.le_refl _)) _ |>.setCell (p := ⟨w.heap.size, 3, none⟩) (.inr (Nat.le_refl _)) _⟩
    | succ n =>
      have c1 : ((n + 1 : Nat) : Int) - 1 = (n : Int) := by omega
      rw [c1]
      clear c1
      obtain ⟨cc, hcc⟩ : ∃ cc, cutN ip n = cc := ⟨_, rfl⟩
      have hcb := cutN_bd ip n h0 h1
      rw [hcc] at hcb
      have T1 := H.out.no hfr
      have kt := T1.cell
      have hok : okK (cc, (n : Int)) := ⟨hcb, by constructor <;> simp only <;> omega⟩
      have L1 : ∀ W : World, MpR W mb l → (Instr.lookup 56 (.map (some mb)) (.agg #[.int .u32 cc, .int .i64 n]) true).run Try.prog W = _ := fun W h => h.look keR Try.underlying56 zeroRt hok true
      have lt1 := lt_of_heap hbr
      have lt3 := lt_of_heap T1.box
      have lt4 := T1.mp.lt
      have L2 := L1 wr.drew (T1.mp.of_heap rfl)
      have L3 := fun o => L1 (wr.alloc o).drew (T1.mp.of_heap (w' := (wr.alloc o).drew) (Below.heap_alloc _ _ _ T1.mp.lt))
      have HC := Lib.hid hcc
      have HT1 := Lib.hid T1
      clear L1 hcc T1 hbr hfr
      obtain ⟨g, hg⟩ : ∃ g, mget l (cc, (n : Int)) = g := ⟨_, rfl⟩
      rw [hg] at L2 L3
      have HG := Lib.hid hg
      clear hg
      cases g with
      | none =>
        simp only [Option.map_none, Option.map_some, Option.getD_none, Option.getD_some, Option.isSome_none, Option.isSome_some, if_true, evR] at L2 L3
        go_wp2
        go_cut [7, 8] (fun t7 t8 wc => t8 = .bool false ∧ Fr No wr wc)
        case first =>
          go_region_with (go_at_call 19; refine (rtCut_any _ h0 h1).mono ?_; rw [HC.out]; rintro e w' ⟨rfl, rfl⟩)
          all_goals (go_wp2_with fail)
          all_goals go_meet
          all_goals exact ⟨rfl, ((Fr.refl No wr).alloc _).drew⟩
        case rest =>
          obtain ⟨rfl, fc⟩ := hcut
          have hN2 : findN l ip n = x := by rw [← HN.out, findN, HC.out, HG.out]
          have FC := Lib.hid fc
          have HN2 := Lib.hid hN2
          clear L2 L3 fc hN2
          go_wp2_with fail
          go_roundw
          case rel => exact ⟨n, by omega, rfl, by go_num, HN2.out, HF.out.then_no FC.out, FC.out.heap HB.out (fun h => h)⟩
          case measure => simp [intOf]
      | some r0 =>
        simp only [Option.map_none, Option.map_some, Option.getD_none, Option.getD_some, Option.isSome_none, Option.isSome_some, if_true, evR] at L2 L3
        go_wp2
        go_cut [7, 8] (fun t7 t8 wc => t8 = .bool true ∧ t7 = .pointer (some ⟨wr.heap.size, 0, none⟩) ∧ Fr No wr wc ∧ wc.heap[wr.heap.size]? = some (.cells #[.int .u32 r0.dst, .int .i64 r0.bits, .int .u32 r0.via, .int .i64 r0.out] 33 (0, 0)))
        case first =>
          go_region_with (go_at_call 19; refine (rtCut_any _ h0 h1).mono ?_; rw [HC.out]; rintro e w' ⟨rfl, rfl⟩)
          all_goals (go_wp2_with fail)
          all_goals go_meet
          all_goals exact ⟨rfl, rfl, ((Fr.refl No wr).alloc _).drew, heap_alloc_new wr _⟩
        case rest =>
          obtain ⟨rfl, rfl, fc, hc⟩ := hcut
          have hN2 : x = some r0 := by rw [← HN.out, findN, HC.out, HG.out]
          have FC := Lib.hid (HF.out.then_no fc)
          have HN2 := Lib.hid hN2
          have hb2 := fc.heap HB.out (fun h => h)
          clear L2 L3 fc hN2
          have b0 := cell_of_row wc _ 0 _ _ _ hb2
          have b1 := cell_of_row wc _ 1 _ _ _ hb2
          have b2 := cell_of_row wc _ 2 _ _ _ hb2
          have b3 := cell_of_row wc _ 3 _ _ _ hb2
          have d0 := cell_of_row wc _ 0 _ _ _ hc
          have d1 := cell_of_row wc _ 1 _ _ _ hc
          have d2 := cell_of_row wc _ 2 _ _ _ hc
          have d3 := cell_of_row wc _ 3 _ _ _ hc
          simp only [List.getElem?_toArray, List.getElem?_cons_zero, List.getElem?_cons_succ] at b0 b1 b2 b3 d0 d1 d2 d3
          have z0 := frozen_of_row wc _ 0 _ _ hb2
          have z1 := frozen_of_row wc _ 1 _ _ hb2
          have z2 := frozen_of_row wc _ 2 _ _ hb2
          have z3 := frozen_of_row wc _ 3 _ _ hb2
          clear hb2 hc
          go_wp2_with fail
          refine bodyPost_ret (v := .tuple #[evR r0, .bool true]) (by simp [results, Try.results15, go_sem, b0, b1, b2, b3, evR]) rfl ?_
          rw [HN2.out]
          exact ⟨rfl, (FC.out.setCell (p := ⟨w.heap.size, 0, none⟩) (.inr (Nat.le_refl _)) _).setCell (p := ⟨w.heap.size, 1, none⟩) (.inr (Nat.le_refl _)) _ |>.setCell (p := ⟨w.heap.size, 2, none⟩) (.inr (Nat.le_refl _)) _ |>.setCell (p := ⟨w.heap.size, 3, none⟩) (.inr (Nat.le_refl _)) _⟩

end Go.Proofs.Ytapiaaffnhmmiaa
