/- tunnel: Get; Port. -/
import Derived.Test.YthoppkklooomgaaTnAd
namespace Go.Proofs.Ythoppkklooomgaa
open Go.RowKit
set_option linter.unusedVariables false
set_option linter.unusedSimpArgs false
theorem TbAt.look_none {S : Nat → Prop} {w : World} {tb mb : Nat} {L : TM} {A : TA} (h : TbAt S w tb mb L A) {n : Int} (hn : okK n) (hg : mget A.l n = none) :
    (Instr.lookup 67 (.map (some mb)) (.int .i64 n) false).run Try.prog w = .ok (.pointer none) w := by
  have LK := h.mp.look (P := Try.prog) keK Try.underlying67 zeroTE (k := n) hn false
  have h2 : mget (L.map prT) n = none := by
    rw [mget_pr]
    rw [h.ab, mget_ab] at hg
    cases hm : mget L n with
    | none => rfl
    | some x => rw [hm] at hg; cases hg
  rw [h2] at LK
  exact LK
theorem TbAt.look_some {S : Nat → Prop} {w : World} {tb mb : Nat} {L : TM} {A : TA} (h : TbAt S w tb mb L A) {n : Int} (hn : okK n) {e : TE} (hg : mget A.l n = some e) :
    ∃ (b : Nat) (m : EnM), (Instr.lookup 67 (.map (some mb)) (.int .i64 n) false).run Try.prog w = .ok (.pointer (some ⟨b, 0, none⟩)) w ∧ (n, b, e) ∈ L ∧ EnAt' S w b e m := by
  have LK := h.mp.look (P := Try.prog) keK Try.underlying67 zeroTE (k := n) hn false
  rw [h.ab, mget_ab] at hg
  cases hm : mget L n with
  | none => rw [hm] at hg; cases hg
  | some x =>
    rw [hm] at hg
    obtain ⟨b, e'⟩ := x
    obtain rfl : e' = e := Option.some.inj hg
    have h2 : mget (L.map prT) n = some b := by rw [mget_pr, hm]; rfl
    rw [h2] at LK
    have hmem := mget_some hm
    obtain ⟨m, hm2⟩ := h.ent _ hmem
    exact ⟨b, m, LK, hmem, hm2⟩
def zeroTn : Tn := ⟨0, 0, 0, 0, 0, [], [], false, false⟩
def GetOk (w : World) (t : Tn) (f : Bool) (e : Ending) (w' : World) : Prop :=
  ∃ (oo : Option Addr) (on oc : Nat) (ad : List (Option Addr × Nat)) (ko : Option Addr) (kn kc : Nat),
    e = .returned (.tuple #[.agg #[.int .i64 t.kind, .int .u32 (t.loc : Int), .int .u32 (t.pee : Int), .int .u32 (t.id : Int), .int .i64 t.seg, .slice oo on oc, .slice ko kn kc, .bool t.sum, .bool t.seq], .bool f]) ∧
    TnOw (Up w.heap.size) w' t oo on oc ad ko kn kc ∧ Fr No w w' ∧ kn ≤ mostU
set_option maxRecDepth 100000 in
set_option maxHeartbeats 1600000 in
theorem tnGet_none {S : Nat → Prop} {w : World} {tb : Nat} {A : TA} (h : Tb S w tb A) {n : Int} (hn : okK n) (hg : mget A.l n = none) :
    Calls Try.prog 17 #[.pointer (some ⟨tb, 0, none⟩), .int .i64 n] w (GetOk w zeroTn false) := by
  obtain ⟨mb, L, h⟩ := h
  have f1 := (Fr.refl No w).alloc (.cells #[.int .i64 0, .int .u32 0, .int .u32 0, .int .u32 0, .int .i64 0, .slice none 0 0, .slice none 0 0, .bool false, .bool false] 27)
  have Y1 := Lib.hid (heap_alloc_new w (.cells #[.int .i64 0, .int .u32 0, .int .u32 0, .int .u32 0, .int .i64 0, .slice none 0 0, .slice none 0 0, .bool false, .bool false] 27))
  have h1 := h.no f1
  have LK := h1.look_none hn hg
  obtain ⟨k0, -⟩ := h1.cells
  have F1 := Lib.hid f1
  clear h h1 f1 hn hg
  go_enter Try.func17, Try.ntmps17
  go_upto_region 1 with fail
  generalize w.alloc (.cells #[.int .i64 0, .int .u32 0, .int .u32 0, .int .u32 0, .int .i64 0, .slice none 0 0, .slice none 0 0, .bool false, .bool false] 27) = w1 at *
  obtain ⟨d0, d1, d2, d3, d4, d5, d6, d7, d8⟩ := cells9 Y1.out
  have z := fun i => free_row Y1.out i
  go_wp2_with fail
  obtain ⟨Y6, f6⟩ := put9 Y1.out (.int .i64 0) (.int .u32 0) (.int .u32 0) (.int .u32 0) (.int .i64 0) (.slice none 0 0) (.slice none 0 0) (.bool false) (.bool false)
  clear d0 d1 d2 d3 d4 d5 d6 d7 d8 z k0 LK
  generalize (((((((((w1.setCell ⟨w.heap.size, 0, none⟩ (.int .i64 0)).setCell ⟨w.heap.size, 1, none⟩ (.int .u32 0)).setCell ⟨w.heap.size, 2, none⟩ (.int .u32 0)).setCell ⟨w.heap.size, 3, none⟩ (.int .u32 0)).setCell ⟨w.heap.size, 4, none⟩ (.int .i64 0)).setCell ⟨w.heap.size, 5, none⟩ (.slice none 0 0)).setCell ⟨w.heap.size, 6, none⟩ (.slice none 0 0)).setCell ⟨w.heap.size, 7, none⟩ (.bool false)).setCell ⟨w.heap.size, 8, none⟩ (.bool false)) = w6 at *
  obtain ⟨d0, d1, d2, d3, d4, d5, d6, d7, d8⟩ := cells9 Y6
  refine bodyPost_ret (v := .tuple #[.agg #[.int .i64 0, .int .u32 0, .int .u32 0, .int .u32 0, .int .i64 0, .slice none 0 0, .slice none 0 0, .bool false, .bool false], .bool false]) (by simp [results, Try.results17, go_sem, d0, d1, d2, d3, d4, d5, d6, d7, d8]) rfl ⟨none, 0, 0, [], none, 0, 0, rfl, ?_, ?_, by decide⟩
  · exact ⟨Ro.nil _ _, OU.nil _, fun a ha => by cases ha⟩
  · exact F1.out.then f6 (fun i hi (h : i = w.heap.size) => by omega)
set_option maxRecDepth 100000 in
set_option maxHeartbeats 1600000 in
theorem tnGet_some {S : Nat → Prop} {w : World} {tb : Nat} {A : TA} (h : Tb S w tb A) {n : Int} (hn : okK n) {e : TE} (hg : mget A.l n = some e) :
    Calls Try.prog 17 #[.pointer (some ⟨tb, 0, none⟩), .int .i64 n] w (GetOk w e.t true) := by
  obtain ⟨mb, L, h⟩ := h
  have f1 := (Fr.refl No w).alloc (.cells #[.int .i64 0, .int .u32 0, .int .u32 0, .int .u32 0, .int .i64 0, .slice none 0 0, .slice none 0 0, .bool false, .bool false] 27)
  have Y1 := Lib.hid (heap_alloc_new w (.cells #[.int .i64 0, .int .u32 0, .int .u32 0, .int .u32 0, .int .i64 0, .slice none 0 0, .slice none 0 0, .bool false, .bool false] 27))
  have h1 := h.no f1
  obtain ⟨b, m, LK, hmem, hm⟩ := h1.look_some hn hg
  have hin : (n, e) ∈ A.l := mget_some hg
  have hok := h.ok.ok _ hin
  have hri := h.ok.right _ hin
  obtain ⟨k0, -⟩ := h1.cells
  have F1 := Lib.hid f1
  have HM := Lib.hid hm
  have HRI := Lib.hid hri
  have HOK := Lib.hid hok
  have hms : m.on ≤ 63 := by rw [← hm.ow.os.len]; exact (right_small hri).1
  have HRD := Lib.hid (hm.ow.rd hok.t (by omega) hm.km)
  have hz1 : (w.alloc (.cells #[.int .i64 0, .int .u32 0, .int .u32 0, .int .u32 0, .int .i64 0, .slice none 0 0, .slice none 0 0, .bool false, .bool false] 27)).heap.size = w.heap.size + 1 := by simp
  obtain ⟨a0, a1, a2, a3, a4, a5, a6, a7, a8, -⟩ := cells11 hm.box
  clear h h1 f1 hn hg hmem hm hin hok hri hms
  go_enter Try.func17, Try.ntmps17
  go_upto_region 1 with fail
  generalize w.alloc (.cells #[.int .i64 0, .int .u32 0, .int .u32 0, .int .u32 0, .int .i64 0, .slice none 0 0, .slice none 0 0, .bool false, .bool false] 27) = w1 at *
  go_wp2_with fail
  refine (tnOwn_any HRD.out HRI.out).mono ?_
  rintro r w2 ⟨oo, oc, ad, ko, kc, rfl, ow, f2⟩
  have OW := Lib.hid ow
  have F2 := Lib.hid (F1.out.trans f2)
  have Y2 := Lib.hid (f2.heap Y1.out (fun h => h))
  have HKM := Lib.hid HM.out.km
  clear ow f2 Y1 F1 HM HRD a0 a1 a2 a3 a4 a5 a6 a7 a8 k0 LK
  obtain ⟨d0, d1, d2, d3, d4, d5, d6, d7, d8⟩ := cells9 Y2.out
  have z := fun i => free_row Y2.out i
  go_wp2_with fail
  obtain ⟨Y6, f6⟩ := put9 Y2.out (.int .i64 e.t.kind) (.int .u32 (e.t.loc : Int)) (.int .u32 (e.t.pee : Int)) (.int .u32 (e.t.id : Int)) (.int .i64 e.t.seg) (.slice oo m.on oc) (.slice ko m.kn kc) (.bool e.t.sum) (.bool e.t.seq)
  clear d0 d1 d2 d3 d4 d5 d6 d7 d8 z
  generalize (((((((((w2.setCell ⟨w.heap.size, 0, none⟩ (.int .i64 e.t.kind)).setCell ⟨w.heap.size, 1, none⟩ (.int .u32 (e.t.loc : Int))).setCell ⟨w.heap.size, 2, none⟩ (.int .u32 (e.t.pee : Int))).setCell ⟨w.heap.size, 3, none⟩ (.int .u32 (e.t.id : Int))).setCell ⟨w.heap.size, 4, none⟩ (.int .i64 e.t.seg)).setCell ⟨w.heap.size, 5, none⟩ (.slice oo m.on oc)).setCell ⟨w.heap.size, 6, none⟩ (.slice ko m.kn kc)).setCell ⟨w.heap.size, 7, none⟩ (.bool e.t.sum)).setCell ⟨w.heap.size, 8, none⟩ (.bool e.t.seq)) = w6 at *
  obtain ⟨d0, d1, d2, d3, d4, d5, d6, d7, d8⟩ := cells9 Y6
  refine bodyPost_ret (v := .tuple #[.agg #[.int .i64 e.t.kind, .int .u32 (e.t.loc : Int), .int .u32 (e.t.pee : Int), .int .u32 (e.t.id : Int), .int .i64 e.t.seg, .slice oo m.on oc, .slice ko m.kn kc, .bool e.t.sum, .bool e.t.seq], .bool true]) (by simp [results, Try.results17, go_sem, d0, d1, d2, d3, d4, d5, d6, d7, d8]) rfl ⟨oo, m.on, oc, ad, ko, m.kn, kc, rfl, ?_, ?_, HKM.out⟩
  · exact (OW.out.fr f6 (fun k (hk : w1.heap.size ≤ k) (h : k = w.heap.size) => by omega)).mono (fun k (hk : w1.heap.size ≤ k) => (show w.heap.size ≤ k by omega))
  · exact F2.out.then f6 (fun i hi (h : i = w.heap.size) => by omega)
end Go.Proofs.Ythoppkklooomgaa