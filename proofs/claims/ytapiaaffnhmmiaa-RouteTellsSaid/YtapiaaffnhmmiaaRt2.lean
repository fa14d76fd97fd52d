/- route: New, Add, Del. -/
import Derived.Test.YtapiaaffnhmmiaaMp
import Derived.Test.YtapiaaffnhmmiaaRt1
import Derived.DeepKeys4
import Derived.Deep.QuietTactic
import Derived.BigQuiet
namespace Go.Proofs.Ytapiaaffnhmmiaa
open Go.RowKit
set_option linter.unusedVariables false
set_option linter.unusedSimpArgs false

theorem laidOutR : laidOutB Try.prog = true := by kernel_rfl
theorem typesR : ∃ d, Try.prog.types.size = d + 1 := ⟨Try.prog.types.size - 1, by kernel_rfl⟩

/-- A route. -/
structure Rt where
  dst : Int
  bits : Int
  via : Int
  out : Int
deriving DecidableEq, Inhabited
def Rt.ok (r : Rt) : Prop := (0 ≤ r.dst ∧ r.dst < 4294967296) ∧ (-9223372036854775808 ≤ r.bits ∧ r.bits ≤ 9223372036854775807) ∧ (0 ≤ r.via ∧ r.via < 4294967296) ∧ (-9223372036854775808 ≤ r.out ∧ r.out ≤ 9223372036854775807)
def evR (r : Rt) : Value := .agg #[.int .u32 r.dst, .int .i64 r.bits, .int .u32 r.via, .int .i64 r.out]
/-- A key. -/
def okK (k : Int × Int) : Prop := (0 ≤ k.1 ∧ k.1 < 4294967296) ∧ (-9223372036854775808 ≤ k.2 ∧ k.2 ≤ 9223372036854775807)
def ekK (k : Int × Int) : Value := .agg #[.int .u32 k.1, .int .i64 k.2]
theorem keR : KE Try.prog 62 okK ekK := by
  refine ⟨Go.Maps.Keyed.of_law (deep_law_laid laidOutR (m := 3) (by omega) (of_decide_eq_true (by kernel_rfl)) (by kernel_rfl) (by rw [Try.underlying62])), ?_, ?_⟩
  · rintro ⟨a, b⟩ ⟨⟨h1, h2⟩, h3, h4⟩
    have hk : Try.prog.keyType 62 = true := by kernel_rfl
    have hf : (ekK (a, b)).formed Try.prog 62 = true := by
      have hc : Try.prog.cellsOf 62 = 2 := by kernel_rfl
      simp [Value.formed, ekK, Try.underlying62, hc]
    have hl : ∃ ls, Try.prog.keyLits (Try.prog.types.size + 1) 62 (ekK (a, b)).cells.toList = some ls := by
      obtain ⟨d, hd⟩ := typesR
      have hc : Try.prog.cellsOf 62 = 2 := by kernel_rfl
      have hc1 : Try.prog.cellsOf 31 = 1 := by kernel_rfl
      have hc2 : Try.prog.cellsOf 3 = 1 := by kernel_rfl
      have w1 : (Lit.int .u32 a).wf = true := by simp only at h1 h2; exact WalkArith.wf_u32 ⟨h1, by omega⟩
      have w2 : (Lit.int .i64 b).wf = true := by simp only at h3 h4; exact WalkArith.wf_i64 ⟨h3, by omega⟩
      rw [hd]
      simp [ekK, Value.cells, Program.keyLits, Try.underlying62, Try.underlying31, Try.underlying3, hc, hc1, hc2, w1, w2]
    obtain ⟨ls, hl⟩ := hl
    refine ⟨.string (keyBytes ls), ?_⟩
    unfold keyOf
    rw [Try.underlying62]
    simp only [hk, hf, Bool.and_self, if_true, hl, Option.map_some]
  · rintro ⟨a, b⟩ ⟨a', b'⟩ h
    simp [ekK] at h
    simp [h.1, h.2]

theorem zeroRt (w : World) : (zeroValue 33).run Try.prog w = .ok (evR ⟨0, 0, 0, 0⟩) w := by kernel_rfl

abbrev MpR (w : World) (mb : Nat) (l : List ((Int × Int) × Rt)) : Prop := Mp okK ekK evR w mb l
/-- A table: block tb; its map: block mb. -/
structure RTb (w : World) (tb mb : Nat) (l : List ((Int × Int) × Rt)) : Prop where
  box : w.heap[tb]? = some (.cells #[.map (some mb)] 58 (0, 0))
  mp : MpR w mb l
theorem RTb.fr {S : Nat → Prop} {w w' : World} {tb mb : Nat} {l : List ((Int × Int) × Rt)} (h : RTb w tb mb l) (hf : Fr S w w') (h1 : ¬ S tb) (h2 : ¬ S mb) : RTb w' tb mb l := ⟨hf.heap h.box h1, h.mp.fr hf h2⟩
theorem RTb.no {w w' : World} {tb mb : Nat} {l : List ((Int × Int) × Rt)} (h : RTb w tb mb l) (hf : Fr No w w') : RTb w' tb mb l := h.fr hf (fun h => h) (fun h => h)
theorem RTb.ne {w : World} {tb mb : Nat} {l : List ((Int × Int) × Rt)} (h : RTb w tb mb l) : tb ≠ mb := by
  intro e
  obtain ⟨es, c, hb, _⟩ := h.mp.ex
  have := h.box
  rw [e, hb] at this
  cases this
theorem cell_box {w : World} {b : Nat} {v : Value} {e : TypeId} {f : Nat × Nat} (h : w.heap[b]? = some (.cells #[v] e f)) : w.cell? ⟨b, 0, none⟩ = some v := by
  rw [cell_of_row w b 0 #[v] e f h]; rfl
theorem cells4 {w : World} {b : Nat} {c0 c1 c2 c3 : Value} {e : TypeId} {f : Nat × Nat} (h : w.heap[b]? = some (.cells #[c0, c1, c2, c3] e f)) :
    w.cell? ⟨b, 0, none⟩ = some c0 ∧ w.cell? ⟨b, 1, none⟩ = some c1 ∧ w.cell? ⟨b, 2, none⟩ = some c2 ∧ w.cell? ⟨b, 3, none⟩ = some c3 :=
  ⟨by rw [cell_of_row w b 0 _ e f h]; rfl, by rw [cell_of_row w b 1 _ e f h]; rfl, by rw [cell_of_row w b 2 _ e f h]; rfl, by rw [cell_of_row w b 3 _ e f h]; rfl⟩
theorem free4 {w : World} {b : Nat} {c0 c1 c2 c3 : Value} {e : TypeId} (h : w.heap[b]? = some (.cells #[c0, c1, c2, c3] e (0, 0))) :
    w.frozen? ⟨b, 0, none⟩ = false ∧ w.frozen? ⟨b, 1, none⟩ = false ∧ w.frozen? ⟨b, 2, none⟩ = false ∧ w.frozen? ⟨b, 3, none⟩ = false :=
  ⟨frozen_of_row w b 0 _ e h, frozen_of_row w b 1 _ e h, frozen_of_row w b 2 _ e h, frozen_of_row w b 3 _ e h⟩
theorem RTb.cell {w : World} {tb mb : Nat} {l : List ((Int × Int) × Rt)} (h : RTb w tb mb l) : w.cell? ⟨tb, 0, none⟩ = some (.map (some mb)) := cell_box h.box

theorem rtNew_any (w : World) : Calls Try.prog 10 #[] w fun e w' => e = .returned (.pointer (some ⟨w.heap.size + 1, 0, none⟩)) ∧ RTb w' (w.heap.size + 1) w.heap.size [] ∧ Fr No w w' := by
  have hmm := @run_makeMap Try.prog
  go_enter Try.func10, Try.ntmps10
  go_wp2
  go_ret
  have h1 : (w.alloc (.map #[] 0)).heap.size = w.heap.size + 1 := by simp
  refine ⟨rfl, ⟨?_, (Mp.made w).no ((Fr.refl _ _).alloc _)⟩, ((Fr.refl _ _).alloc _).alloc _⟩
  rw [← h1]; exact heap_alloc_new _ _

def addCode (l : List ((Int × Int) × Rt)) (r : Rt) : Int :=
  if r.bits < 0 ∨ 32 < r.bits ∨ cutN r.dst r.bits ≠ r.dst then 1 else if (mget l (r.dst, r.bits)).isSome = false ∧ 64 ≤ l.length then 5 else 0
def addTo (l : List ((Int × Int) × Rt)) (r : Rt) : List ((Int × Int) × Rt) := if addCode l r = 0 then mput l (r.dst, r.bits) r else l

def AddP (w : World) (tb mb : Nat) (c : Int) (l' : List ((Int × Int) × Rt)) (e : Ending) (w' : World) : Prop := e = .returned (.int .i64 c) ∧ RTb w' tb mb l' ∧ Fr (Is mb) w w'

theorem rtCut_q (n : Nat) {ip b : Int} (w : World) (h0 : 0 ≤ ip) (h1 : ip < 4294967296) {x : Int} (hx : cutN ip b = x) : Calls Try.prog 19 #[.int .u32 ip, .int .i64 b] (w.drewN n) fun e w' => e = .returned (.int .u32 x) ∧ ∃ m, w' = w.drewN m :=
  (rtCut_any (w.drewN n) h0 h1).mono fun _ _ ⟨he, hw⟩ => ⟨by rw [he, hx], n, hw.symm⟩

theorem Fr.drewN {S : Nat → Prop} {a w : World} (h : Fr S a w) (n : Nat) : Fr S a (w.drewN n) := ⟨h.os, h.tape, h.output, h.size, h.block⟩

theorem rtAdd_arg1 {w : World} {tb mb : Nat} {l : List ((Int × Int) × Rt)} (h : RTb w tb mb l) {d b v o : Int} (hb : b < 0) :
    Calls Try.prog 20 #[.pointer (some ⟨tb, 0, none⟩), .agg #[.int .u32 d, .int .i64 b, .int .u32 v, .int .i64 o]] w (AddP w tb mb 1 l) := by
  have H := Lib.hid h
  clear h
  have hd1 : decide (b < 0) = true := by simpa using hb
  go_enter Try.func20, Try.ntmps20
  go_wp2
  go_quiet (fail)
  go_wp2
  go_ret
  exact ⟨rfl, H.out.no (((Fr.refl _ _).alloc _).drewN _), (((Fr.refl _ _).alloc _).drewN _).of_no⟩
theorem rtAdd_arg2 {w : World} {tb mb : Nat} {l : List ((Int × Int) × Rt)} (h : RTb w tb mb l) {d b v o : Int} (hb : 32 < b) :
    Calls Try.prog 20 #[.pointer (some ⟨tb, 0, none⟩), .agg #[.int .u32 d, .int .i64 b, .int .u32 v, .int .i64 o]] w (AddP w tb mb 1 l) := by
  have H := Lib.hid h
  clear h
  have hd1 : decide (b < 0) = false := by simp; omega
  have hd2 : decide (32 < b) = true := by simpa using hb
  go_enter Try.func20, Try.ntmps20
  go_wp2
  go_quiet (fail)
  go_wp2
  go_ret
  exact ⟨rfl, H.out.no (((Fr.refl _ _).alloc _).drewN _), (((Fr.refl _ _).alloc _).drewN _).of_no⟩
theorem rtAdd_arg3 {w : World} {tb mb : Nat} {l : List ((Int × Int) × Rt)} (h : RTb w tb mb l) {d b v o : Int} (hd0 : 0 ≤ d) (hdd : d < 4294967296) (hb0 : 0 ≤ b) (hb : b ≤ 32) (hc : cutN d b ≠ d) :
    Calls Try.prog 20 #[.pointer (some ⟨tb, 0, none⟩), .agg #[.int .u32 d, .int .i64 b, .int .u32 v, .int .i64 o]] w (AddP w tb mb 1 l) := by
  have H := Lib.hid h
  clear h
  have hd1 : decide (b < 0) = false := by simp; omega
  have hd2 : decide (32 < b) = false := by simp; omega
  obtain ⟨c, hcc⟩ : ∃ c, cutN d b = c := ⟨_, rfl⟩
  have hb1 : (c != d) = true := by rw [hcc] at hc; simpa using hc
  have HC := Lib.hid hcc
  clear hcc hc
  go_enter Try.func20, Try.ntmps20
  go_wp2
  go_quiet ((go_at_call 19; exact rtCut_q _ _ hd0 hdd HC.out))
  go_wp2
  go_ret
  exact ⟨rfl, H.out.no (((Fr.refl _ _).alloc _).drewN _), (((Fr.refl _ _).alloc _).drewN _).of_no⟩


def AddOut (l : List ((Int × Int) × Rt)) (r : Rt) (c : Int) (l' : List ((Int × Int) × Rt)) : Prop :=
  ((mget l (r.dst, r.bits) = none ∧ 64 ≤ l.length) ∧ c = 5 ∧ l' = l) ∨ (¬ (mget l (r.dst, r.bits) = none ∧ 64 ≤ l.length) ∧ c = 0 ∧ l' = mput l (r.dst, r.bits) r)

set_option maxRecDepth 100000 in
set_option maxHeartbeats 400000 in
theorem rtAdd_in {w : World} {tb mb : Nat} {l : List ((Int × Int) × Rt)} (h : RTb w tb mb l) {d b v o : Int} (hd0 : 0 ≤ d) (hdd : d < 4294967296) (hb0 : 0 ≤ b) (hb : b ≤ 32) (hc : cutN d b = d) (hl : l.length ≤ 64)
    {c : Int} {l' : List ((Int × Int) × Rt)} (ho : AddOut l ⟨d, b, v, o⟩ c l') :
    Calls Try.prog 20 #[.pointer (some ⟨tb, 0, none⟩), .agg #[.int .u32 d, .int .i64 b, .int .u32 v, .int .i64 o]] w (AddP w tb mb c l') := by
  have hlt := h.mp.lt
  have hlt2 := lt_of_heap h.box
  have H := Lib.hid h
  have HO := Lib.hid ho
  clear h ho
  have hd1 : decide (b < 0) = false := by simp; omega
  have hd2 : decide (32 < b) = false := by simp; omega
  have HC := Lib.hid hc
  have hb1 : (d != d) = false := by simp
  clear hc
  go_enter Try.func20, Try.ntmps20
  go_wp2
  go_quiet ((go_at_call 19; exact rtCut_q _ _ hd0 hdd HC.out))
  go_wp2
  generalize hwv : World.alloc _ _ = wv
  have FV : Fr No w wv := by rw [← hwv]; exact (((Fr.refl _ _).alloc _).drewN _).alloc _
  have b3 : wv.heap[w.heap.size]? = some (.cells #[.int .u32 d, .int .i64 b, .int .u32 v, .int .i64 o] 33 (0, 0)) := by
    rw [← hwv]; exact (((Fr.refl No _).drewN _).alloc _).heap (heap_alloc_new w _) (fun h => h)
  have b5 : wv.heap[w.heap.size + 1]? = some (.cells #[.int .u32 d, .int .i64 b] 62 (0, 0)) := by
    rw [← hwv, show w.heap.size + 1 = ((World.alloc w (.cells #[.int .u32 d, .int .i64 b, .int .u32 v, .int .i64 o] 33)).drewN _).heap.size from by simp]; exact heap_alloc_new _ _
  have sv : wv.heap.size = w.heap.size + 2 := by rw [← hwv]; simp
  clear hwv
  have T1 := H.out.no FV
  have k0 := cell_of_row wv _ 0 _ _ _ b5
  have k1 := cell_of_row wv _ 1 _ _ _ b5
  have k2 := cell_of_row wv _ 0 _ _ _ b3
  have k3 := cell_of_row wv _ 1 _ _ _ b3
  have k4 := cell_of_row wv _ 2 _ _ _ b3
  have k5 := cell_of_row wv _ 3 _ _ _ b3
  have kt := T1.cell
  have hok : okK (d, b) := ⟨⟨hd0, hdd⟩, by constructor <;> simp only <;> omega⟩
  simp only [List.getElem?_toArray, List.getElem?_cons_zero, List.getElem?_cons_succ] at k0 k1 k2 k3 k4 k5
  have L1 : ∀ W : World, MpR W mb l → (Instr.lookup 56 (.map (some mb)) (.agg #[.int .u32 d, .int .i64 b]) true).run Try.prog W = _ := fun W h => h.look keR Try.underlying56 zeroRt hok true
  have lt1 : w.heap.size < wv.heap.size := by omega
  have lt2 : w.heap.size + 1 < wv.heap.size := by omega
  have lt3 : tb < wv.heap.size := by omega
  have lt4 : mb < wv.heap.size := by omega
  have L2 := L1 wv.drew (T1.mp.of_heap rfl)
  have L3 := fun o => L1 (wv.alloc o).drew (T1.mp.of_heap (w' := (wv.alloc o).drew) (Below.heap_alloc _ _ _ T1.mp.lt))
  clear L1
  have HT1 := Lib.hid T1
  have HB3 := Lib.hid b3
  have HB5 := Lib.hid b5
  clear T1 b3 b5 sv
  obtain ⟨g, hg⟩ : ∃ g, mget l (d, b) = g := ⟨_, rfl⟩
  rw [hg] at L2 L3
  have HG := Lib.hid hg
  clear hg
  cases g
  all_goals
    rename_i HG
    simp only [Option.map_none, Option.map_some, Option.getD_none, Option.getD_some, Option.isSome_none, Option.isSome_some, if_true, evR] at L2 L3
    go_region
    clear L2 L3
    generalize hwx : World.drew _ = wx
    have FX : Fr No wv wx := by rw [← hwx]; exact ((Fr.refl No wv).alloc _).drew
    have TX := HT1.out.no FX
    have LN := TX.mp.len (P := Try.prog) Try.underlying56 3
    have x5 := FX.heap HB5.out (fun h => h)
    have x3 := FX.heap HB3.out (fun h => h)
    have y0 := cell_of_row wx.drew _ 0 _ _ _ x5
    have y1 := cell_of_row wx.drew _ 1 _ _ _ x5
    have y2 := cell_of_row wx.drew _ 0 _ _ _ x3
    have y3 := cell_of_row wx.drew _ 1 _ _ _ x3
    have y4 := cell_of_row wx.drew _ 2 _ _ _ x3
    have y5 := cell_of_row wx.drew _ 3 _ _ _ x3
    have yt := TX.cell
    simp only [List.getElem?_toArray, List.getElem?_cons_zero, List.getElem?_cons_succ] at y0 y1 y2 y3 y4 y5
    obtain ⟨w2, hp, m2, f2, s2⟩ := Mp.put (w := wx.drew) (TX.mp.of_heap rfl) keR Try.underlying56 hok (⟨d, b, v, o⟩ : Rt)
    simp only [ekK, evR] at hp
    have HTX := Lib.hid TX
    have HM2 := Lib.hid m2
    have HF2 := Lib.hid ((FV.trans FX).drew.of_no.trans f2)
    have HFX := Lib.hid (FV.trans FX)
    clear hwx TX FX x5 x3 m2 f2 s2
  · by_cases h64 : 64 ≤ l.length
    · have hl64 : l.length = 64 := by omega
      rw [hl64] at LN
      have HL := Lib.hid hl64
      clear h64 hl64
      go_wp2
      go_ret
      rcases HO.out with ⟨-, rfl, rfl⟩ | ⟨h, -⟩
      · exact ⟨rfl, HTX.out, HFX.out.of_no⟩
      · exact absurd ⟨HG.out, by have := HL.out; omega⟩ h
    · have HL := Lib.hid h64
      go_wp2
      go_region
      go_wp2
      go_ret
      rcases HO.out with ⟨⟨-, h⟩, -⟩ | ⟨-, rfl, rfl⟩
      · exact absurd h HL.out
      · exact ⟨rfl, ⟨HF2.out.heap H.out.box (fun h => H.out.ne h), HM2.out⟩, HF2.out⟩
  · go_wp2
    go_region
    go_wp2
    go_ret
    rcases HO.out with ⟨⟨h, -⟩, -⟩ | ⟨-, rfl, rfl⟩
    · rw [HG.out] at h; cases h
    · exact ⟨rfl, ⟨HF2.out.heap H.out.box (fun h => H.out.ne h), HM2.out⟩, HF2.out⟩

end Go.Proofs.Ytapiaaffnhmmiaa
