/- tunnel: a frame's bytes in a tunnel. -/
import Derived.Test.YthoppkklooomgaaTnP
namespace Go.Proofs.Ythoppkklooomgaa
open Go.RowKit
set_option linter.unusedVariables false
set_option linter.unusedSimpArgs false
/-- What comes of a frame: bytes, or an error of the layer. -/
def EncPost (w : World) (t : Tn) (next : Nat) (fs : List UInt8) (e : Ending) (w' : World) : Prop :=
  (sizN fs = 0 ∧ BytesOk w (encT t next fs).length (encT t next fs) e w') ∨ (sizN fs ≠ 0 ∧ BytesNo w [layT t.kind] (sizN fs) e w')
theorem EncPost.pre {w W : World} {t : Tn} {next : Nat} {fs : List UInt8} {e : Ending} {w' : World} (h : EncPost W t next fs e w') (hf : Fr No w W) : EncPost w t next fs e w' := by
  rcases h with ⟨h0, g, c, h1, h2, h3, h4⟩ | ⟨h0, b, h1, h2, h3⟩
  · exact .inl ⟨h0, g, c, h1, h2, hf.trans h3, Nat.le_trans hf.size h4⟩
  · exact .inr ⟨h0, b, h1, h2, hf.trans h3⟩
theorem EncPost.form {w : World} {t : Tn} {next : Nat} {fs : List UInt8} {e : Ending} {w' : World} (h : EncPost w t next fs e w') : ∃ v1 v2, e = .returned (.tuple #[v1, v2]) ∧ Fr No w w' := by
  rcases h with ⟨h0, g, c, h1, h2, h3, h4⟩ | ⟨h0, b, h1, h2, h3⟩
  · exact ⟨_, _, h1, h3⟩
  · exact ⟨_, _, h1, h3⟩
theorem sizN_ok {fs : List UInt8} (h : sizN fs = 0) : 14 ≤ fs.length ∧ fs.length ≤ 9000 := by
  unfold sizN at h
  split at h
  · cases h
  · split at h
    · cases h
    · omega
theorem sizN_no {fs : List UInt8} (h : sizN fs ≠ 0) : fs.length < 14 ∧ sizN fs = 2 ∨ 9000 < fs.length ∧ sizN fs = 7 := by
  unfold sizN at h ⊢
  split
  · rename_i h1; exact .inl ⟨h1, rfl⟩
  · rename_i h1
    rw [if_neg h1] at h
    split
    · rename_i h2; exact .inr ⟨h2, rfl⟩
    · rename_i h2; rw [if_neg h2] at h; exact absurd rfl h
theorem vx_post {w : World} {t : Tn} (ht : t.kind = 1) (hid : t.id < 16777216) {next : Nat} {fo : Option Addr} {fn fc : Nat} {fs : List UInt8} (hb : Bs w fo fn fc fs) :
    Calls Try.prog 41 #[.int .u32 (t.id : Int), .slice fo fn fc] w (EncPost w t next fs) := by
  have hn := hb.1
  have e1 : encT t next fs = vxOut t.id fs := by unfold encT; rw [if_pos ht]
  have e2 : layT t.kind = vxlanS := by unfold layT; rw [if_pos ht]
  by_cases h0 : sizN fs = 0
  · obtain ⟨h1, h2⟩ := sizN_ok h0
    refine (vxEncap_ok (t.id : Int) (by omega) (by omega) hb (by omega) (by omega) (m := (encT t next fs).length) (by rw [e1, vxOut_length, hn])).mono (fun e w' h => .inl ⟨h0, ?_⟩)
    rw [e1] at h ⊢; exact h
  · rcases sizN_no h0 with ⟨h1, h2⟩ | ⟨h1, h2⟩
    · refine (vxEncap_short (t.id : Int) (by omega) (by omega)).mono (fun e w' h => .inr ⟨h0, ?_⟩)
      rw [e2, h2]; exact h
    · refine (vxEncap_big (t.id : Int) (by omega) (by omega)).mono (fun e w' h => .inr ⟨h0, ?_⟩)
      rw [e2, h2]; exact h
theorem gn_post {w : World} {t : Tn} (ht : t.kind = 2) (hid : t.id < 16777216) (hr : rightN t.os = 0) {oo : Option Addr} {on oc : Nat} (ho : Rs w oo on oc t.os) (hon : on ≤ 1000) {next : Nat} {fo : Option Addr} {fn fc : Nat} {fs : List UInt8} (hb : Bs w fo fn fc fs) :
    Calls Try.prog 15 #[.int .u32 (t.id : Int), .slice oo on oc, .slice fo fn fc] w (EncPost w t next fs) := by
  have hn := hb.1
  have e1 : encT t next fs = gnOut t.id t.os fs := by unfold encT; rw [if_neg (by omega), if_pos ht]
  have e2 : layT t.kind = geneveS := by unfold layT; rw [if_neg (by omega), if_pos ht]
  by_cases h0 : sizN fs = 0
  · obtain ⟨h1, h2⟩ := sizN_ok h0
    refine (gnEncap_ok (t.id : Int) (by omega) (by omega) ho hon hr hb (by omega) (by omega) (m := (encT t next fs).length) (by rw [e1, gnOut_length, hn])).mono (fun e w' h => .inl ⟨h0, ?_⟩)
    rw [e1] at h ⊢; exact h
  · refine (gnEncap_size (t.id : Int) (by omega) ho hon hr (sizN fs) (by rw [hn]; exact sizN_no h0)).mono (fun e w' h => .inr ⟨h0, ?_⟩)
    rw [e2]; exact h
theorem gre_post {w : World} {t : Tn} (ht : t.kind = 3) (hid : t.id < 4294967296) {next : Nat} (hx : next < 4294967296) {fo : Option Addr} {fn fc : Nat} {fs : List UInt8} (hb : Bs w fo fn fc fs) :
    Calls Try.prog 42 #[.agg #[.bool t.sum, .bool true, .int .u32 (t.id : Int), .bool t.seq, .int .u32 (next : Int)], .slice fo fn fc] w (EncPost w t next fs) := by
  have hn := hb.1
  have e1 : encT t next fs = greOut t.sum true t.id t.seq next fs := by unfold encT; rw [if_neg (by omega), if_neg (by omega)]
  have e2 : layT t.kind = greS := by unfold layT; rw [if_neg (by omega), if_neg (by omega)]
  by_cases h0 : sizN fs = 0
  · obtain ⟨h1, h2⟩ := sizN_ok h0
    refine (gEncap_ok t.sum true (t.id : Int) t.seq (next : Int) (by omega) (by omega) (by omega) (by omega) hb (by omega) (by omega) (m := (encT t next fs).length) (by rw [e1, greOut_length, hn])).mono (fun e w' h => .inl ⟨h0, ?_⟩)
    rw [e1] at h ⊢; exact h
  · rcases sizN_no h0 with ⟨h1, h2⟩ | ⟨h1, h2⟩
    · refine (gEncap_short t.sum true (t.id : Int) t.seq (next : Int) (by omega)).mono (fun e w' h => .inr ⟨h0, ?_⟩)
      rw [e2, h2]; exact h
    · refine (gEncap_big t.sum true (t.id : Int) t.seq (next : Int) (by omega)).mono (fun e w' h => .inr ⟨h0, ?_⟩)
      rw [e2, h2]; exact h

set_option maxRecDepth 100000 in
set_option maxHeartbeats 1600000 in
theorem tnBytes_any {S : Nat → Prop} {w : World} {eb : Nat} {e : TE} {m : EnM} (h : EnAt' S w eb e m) (hok : e.ok) (hr : RightT e.t) {fo : Option Addr} {fn fc : Nat} {fs : List UInt8} (hb : Bs w fo fn fc fs) :
    Calls Try.prog 24 #[.pointer (some ⟨eb, 0, none⟩), .slice fo fn fc] w (EncPost w e.t e.next fs) := by
  have hms : m.on ≤ 63 := by rw [← h.ow.os.len]; exact (right_small hr).1
  have HB := Lib.hid hb
  have HR := Lib.hid hr
  have HK := Lib.hid hok
  have HO := Lib.hid h.ow.os.rs
  have SF : Hid (∀ W, Fr No w W → W.cell? ⟨eb, 0, none⟩ = some (.int .i64 e.t.kind) ∧ W.cell? ⟨eb, 3, none⟩ = some (.int .u32 (e.t.id : Int)) ∧ W.cell? ⟨eb, 5, none⟩ = some (.slice m.oo m.on m.oc) ∧ W.cell? ⟨eb, 7, none⟩ = some (.bool e.t.sum) ∧ W.cell? ⟨eb, 8, none⟩ = some (.bool e.t.seq) ∧ W.cell? ⟨eb, 9, none⟩ = some (.int .u32 (e.next : Int))) := Lib.hid (fun W f => by
    obtain ⟨a0, a1, a2, a3, a4, a5, a6, a7, a8, a9, -⟩ := cells11 (f.heap h.box (fun h => h))
    exact ⟨a0, a3, a5, a7, a8, a9⟩)
  obtain ⟨a0, a3, a5, a7, a8, a9⟩ := SF.out _ (Fr.refl _ _)
  have hk := hr.2.2.2.2.2
  clear h hok hr hb
  rcases hk with ⟨k1, -, hid⟩ | ⟨k2, hid⟩ | ⟨k3, -⟩
  · have HK1 := Lib.hid k1
    have HID := Lib.hid hid
    rw [k1] at a0
    clear k1 hid
    go_enter Try.func24, Try.ntmps24
    go_wp2_with (go_at_call 41; refine (vx_post HK1.out HID.out (next := e.next) HB.out).mono ?_; rintro r w1 hp; obtain ⟨v1, v2, rfl, -⟩ := hp.form; have HP := Lib.hid hp; clear hp)
    go_ret2
    exact HP.out
  · have HK1 := Lib.hid k2
    have HID := Lib.hid hid
    rw [k2] at a0
    clear k2 hid
    go_enter Try.func24, Try.ntmps24
    go_upto_region 5 with fail
    go_region_held3 (fun W => W.cell? ⟨eb, 0, none⟩ = some (.int .i64 e.t.kind) ∧ W.cell? ⟨eb, 3, none⟩ = some (.int .u32 (e.t.id : Int)) ∧ W.cell? ⟨eb, 5, none⟩ = some (.slice m.oo m.on m.oc) ∧ W.cell? ⟨eb, 7, none⟩ = some (.bool e.t.sum) ∧ W.cell? ⟨eb, 8, none⟩ = some (.bool e.t.seq) ∧ W.cell? ⟨eb, 9, none⟩ = some (.int .u32 (e.next : Int)))
      (first | exact SF.out _ (Fr.refl _ _).drew | exact SF.out _ F1.out)
      ((go_at_call 15; refine (gn_post HK1.out HID.out HR.out.2.2.2.2.1 (HO.out.no (Fr.refl No w).drew) (by omega) (next := e.next) (HB.out.no (Fr.refl No w).drew)).mono ?_; rintro r w1 hp; have hp := hp.pre (Fr.refl No w).drew; obtain ⟨v1, v2, rfl, f1⟩ := hp.form; have HP := Lib.hid hp; have F1 := Lib.hid f1; clear hp f1))
    go_wp2_with fail
    go_ret2
    exact HP.out
  · have HK1 := Lib.hid k3
    rw [k3] at a0
    clear k3
    go_enter Try.func24, Try.ntmps24
    go_upto_region 6 with fail
    go_region_held3 (fun W => W.cell? ⟨eb, 0, none⟩ = some (.int .i64 e.t.kind) ∧ W.cell? ⟨eb, 3, none⟩ = some (.int .u32 (e.t.id : Int)) ∧ W.cell? ⟨eb, 5, none⟩ = some (.slice m.oo m.on m.oc) ∧ W.cell? ⟨eb, 7, none⟩ = some (.bool e.t.sum) ∧ W.cell? ⟨eb, 8, none⟩ = some (.bool e.t.seq) ∧ W.cell? ⟨eb, 9, none⟩ = some (.int .u32 (e.next : Int)))
      (first | exact SF.out _ (Fr.refl _ _).drew | exact SF.out _ F1.out)
      ((go_at_call 42; refine (gre_post HK1.out HK.out.t.id HK.out.next (HB.out.no (Fr.refl No w).drew)).mono ?_; rintro r w1 hp; have hp := hp.pre (Fr.refl No w).drew; obtain ⟨v1, v2, rfl, f1⟩ := hp.form; have HP := Lib.hid hp; have F1 := Lib.hid f1; clear hp f1))
    go_wp2_with fail
    go_ret2
    exact HP.out
end Go.Proofs.Ythoppkklooomgaa