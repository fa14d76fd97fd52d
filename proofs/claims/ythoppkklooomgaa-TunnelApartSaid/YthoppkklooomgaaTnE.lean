/- tunnel: Encap. -/
import Derived.Test.YthoppkklooomgaaTnU
namespace Go.Proofs.Ythoppkklooomgaa
open Go.RowKit
set_option linter.unusedVariables false
set_option linter.unusedSimpArgs false
def EncapOk (S : Nat → Prop) (w : World) (tb : Nat) (R : TA × EncR) (e : Ending) (w' : World) : Prop :=
  Tb S w' tb R.1 ∧ Fr S w w' ∧ match R.2 with
    | .ok p => ∃ g cap, e = .returned (.tuple #[.agg #[.int .u32 (p.src : Int), .int .u32 (p.dst : Int), .int .u8 (p.proto : Int), .int .u16 (p.sport : Int), .int .u16 (p.dport : Int), .slice (some ⟨g, 0, none⟩) p.b.length cap], .nilIface]) ∧
        OB w' 5 (some ⟨g, 0, none⟩) p.b.length cap p.b ∧ w.heap.size ≤ g
    | .no ls n => ∃ v, e = .returned (.tuple #[.agg #[.int .u32 0, .int .u32 0, .int .u8 0, .int .u16 0, .int .u16 0, .slice none 0 0], v]) ∧ Err w' v ls n
theorem put6 {w : World} {b t : Nat} {c0 c1 c2 c3 c4 c5 : Value} (h : w.heap[b]? = some (.cells #[c0, c1, c2, c3, c4, c5] t (0, 0))) (v0 v1 v2 v3 v4 v5 : Value) :
    ((((((w.setCell ⟨b, 0, none⟩ v0).setCell ⟨b, 1, none⟩ v1).setCell ⟨b, 2, none⟩ v2).setCell ⟨b, 3, none⟩ v3).setCell ⟨b, 4, none⟩ v4).setCell ⟨b, 5, none⟩ v5).heap[b]? = some (.cells #[v0, v1, v2, v3, v4, v5] t (0, 0)) ∧
    Fr (Is b) w ((((((w.setCell ⟨b, 0, none⟩ v0).setCell ⟨b, 1, none⟩ v1).setCell ⟨b, 2, none⟩ v2).setCell ⟨b, 3, none⟩ v3).setCell ⟨b, 4, none⟩ v4).setCell ⟨b, 5, none⟩ v5) := by
  refine ⟨?_, (((((((Fr.refl (Is b) w).setCell (p := ⟨b, 0, none⟩) (.inl (show b = b from rfl)) v0).setCell (p := ⟨b, 1, none⟩) (.inl (show b = b from rfl)) v1).setCell (p := ⟨b, 2, none⟩) (.inl (show b = b from rfl)) v2).setCell (p := ⟨b, 3, none⟩) (.inl (show b = b from rfl)) v3).setCell (p := ⟨b, 4, none⟩) (.inl (show b = b from rfl)) v4).setCell (p := ⟨b, 5, none⟩) (.inl (show b = b from rfl)) v5)⟩
  have h0 := set_row (cs' := #[v0, c1, c2, c3, c4, c5]) h 0 v0 (by simp)
  have h1 := set_row (cs' := #[v0, v1, c2, c3, c4, c5]) h0 1 v1 (by simp)
  have h2 := set_row (cs' := #[v0, v1, v2, c3, c4, c5]) h1 2 v2 (by simp)
  have h3 := set_row (cs' := #[v0, v1, v2, v3, c4, c5]) h2 3 v3 (by simp)
  have h4 := set_row (cs' := #[v0, v1, v2, v3, v4, c5]) h3 4 v4 (by simp)
  exact set_row (cs' := #[v0, v1, v2, v3, v4, v5]) h4 5 v5 (by simp)
theorem cells6' {w : World} {b t : Nat} {c0 c1 c2 c3 c4 c5 : Value} {f : Nat × Nat} (h : w.heap[b]? = some (.cells #[c0, c1, c2, c3, c4, c5] t f)) :
    w.cell? ⟨b, 0, none⟩ = some c0 ∧ w.cell? ⟨b, 1, none⟩ = some c1 ∧ w.cell? ⟨b, 2, none⟩ = some c2 ∧ w.cell? ⟨b, 3, none⟩ = some c3 ∧ w.cell? ⟨b, 4, none⟩ = some c4 ∧ w.cell? ⟨b, 5, none⟩ = some c5 := by
  refine ⟨?_, ?_, ?_, ?_, ?_, ?_⟩ <;> (rw [cell_of_row w b _ _ _ _ h]; rfl)
theorem Err.is6 {w w' : World} {v : Value} {ls : List ByteArray} {n : Int} (h : Err w v ls n) {b t : Nat} {cs : Array Value} (hb : w.heap[b]? = some (.cells cs t (0, 0))) (ht : t ≠ 109) (hf : Fr (Is b) w w') : Err w' v ls n := Err.beside h hb ht hf
theorem pk_types : 41 ≠ 109 ∧ 83 ≠ 109 := by decide

set_option maxRecDepth 100000 in
set_option maxHeartbeats 1600000 in
theorem tnEncap_none {S : Nat → Prop} {w : World} {tb : Nat} {A : TA} (h : Tb S w tb A) {n : Int} (hn : okK n) (hg : mget A.l n = none) {fo : Option Addr} {fn fc : Nat} {fs : List UInt8} :
    Calls Try.prog 12 #[.pointer (some ⟨tb, 0, none⟩), .int .i64 n, .slice fo fn fc] w (EncapOk S w tb (A.encap n fs)) := by
  have hR : A.encap n fs = (A, .no [tunnelS] 6) := by unfold TA.encap; rw [hg]
  rw [hR]
  have HT := Lib.hid h
  obtain ⟨mb, L, h⟩ := h
  have f1 := (Fr.refl No w).alloc (.cells #[.int .u32 0, .int .u32 0, .int .u8 0, .int .u16 0, .int .u16 0, .slice none 0 0] 41)
  have Y1 := Lib.hid (heap_alloc_new w (.cells #[.int .u32 0, .int .u32 0, .int .u8 0, .int .u16 0, .int .u16 0, .slice none 0 0] 41))
  have h1 := h.no f1
  have LK := h1.look_none hn hg
  obtain ⟨k0, -⟩ := h1.cells
  have F1 := Lib.hid f1
  have hlt := Lib.hid h.lt
  clear h h1 f1 hn hg hR
  go_enter Try.func12, Try.ntmps12
  go_upto_region 1 with fail
  generalize w.alloc (.cells #[.int .u32 0, .int .u32 0, .int .u8 0, .int .u16 0, .int .u16 0, .slice none 0 0] 41) = w1 at *
  go_wp2_with (go_at_call 23; refine (wrap_err _ (Err.num 6)).mono ?_; rintro e w2 ⟨b, rfl, he, f2⟩; have HE := Lib.hid he; have F2 := Lib.hid (F1.out.trans f2); have Y2 := Lib.hid (f2.heap Y1.out (fun h => h)); obtain ⟨d0, d1, d2, d3, d4, d5⟩ := cells6' Y2.out; have z := fun i => free_row Y2.out i; clear he f2)
  obtain ⟨Y6, f6⟩ := put6 Y2.out (.int .u32 0) (.int .u32 0) (.int .u8 0) (.int .u16 0) (.int .u16 0) (.slice none 0 0)
  clear d0 d1 d2 d3 d4 d5 z k0 LK
  have HE6 := Lib.hid (Err.is6 HE.out Y2.out pk_types.1 f6)
  have F6 := Lib.hid (F2.out.then f6 (fun i hi (h : i = w.heap.size) => by omega))
  clear f6
  generalize ((((((w2.setCell ⟨w.heap.size, 0, none⟩ (.int .u32 0)).setCell ⟨w.heap.size, 1, none⟩ (.int .u32 0)).setCell ⟨w.heap.size, 2, none⟩ (.int .u8 0)).setCell ⟨w.heap.size, 3, none⟩ (.int .u16 0)).setCell ⟨w.heap.size, 4, none⟩ (.int .u16 0)).setCell ⟨w.heap.size, 5, none⟩ (.slice none 0 0)) = w6 at *
  obtain ⟨d0, d1, d2, d3, d4, d5⟩ := cells6' Y6
  refine bodyPost_ret (v := .tuple #[.agg #[.int .u32 0, .int .u32 0, .int .u8 0, .int .u16 0, .int .u16 0, .slice none 0 0], .iface 107 (.pointer (some ⟨b, 0, none⟩))]) (by simp [results, Try.results12, go_sem, d0, d1, d2, d3, d4, d5]) rfl ⟨HT.out.no F6.out, F6.out.of_no, _, rfl, HE6.out⟩

set_option maxRecDepth 100000 in
set_option maxHeartbeats 1600000 in
theorem tnEncap_no {S : Nat → Prop} {w : World} {tb : Nat} {A : TA} (h : Tb S w tb A) {n : Int} (hn : okK n) {e : TE} (hg : mget A.l n = some e) {fo : Option Addr} {fn fc : Nat} {fs : List UInt8} (hb : Bs w fo fn fc fs) (hs : sizN fs ≠ 0) :
    Calls Try.prog 12 #[.pointer (some ⟨tb, 0, none⟩), .int .i64 n, .slice fo fn fc] w (EncapOk S w tb (A.encap n fs)) := by
  have hR : A.encap n fs = (A, .no [tunnelS, layT e.t.kind] (sizN fs)) := by unfold TA.encap; rw [hg]; simp only; rw [if_neg hs]
  rw [hR]
  have HT := Lib.hid h
  obtain ⟨mb, L, h⟩ := h
  have f1 := (Fr.refl No w).alloc (.cells #[.int .u32 0, .int .u32 0, .int .u8 0, .int .u16 0, .int .u16 0, .slice none 0 0] 41)
  have Y1 := Lib.hid (heap_alloc_new w (.cells #[.int .u32 0, .int .u32 0, .int .u8 0, .int .u16 0, .int .u16 0, .slice none 0 0] 41))
  have h1 := h.no f1
  obtain ⟨eb, m, LK, hmem, hm⟩ := h1.look_some hn hg
  obtain ⟨k0, -⟩ := h1.cells
  have F1 := Lib.hid f1
  have HM := Lib.hid hm
  have HOK := Lib.hid (h.ok.ok _ (mget_some hg))
  have HRI := Lib.hid (h.ok.right _ (mget_some hg))
  have HB := Lib.hid (hb.no f1)
  have HS := Lib.hid hs
  clear h h1 f1 hn hg hR hm hb hs hmem
  go_enter Try.func12, Try.ntmps12
  go_upto_region 1 with fail
  generalize w.alloc (.cells #[.int .u32 0, .int .u32 0, .int .u8 0, .int .u16 0, .int .u16 0, .slice none 0 0] 41) = w1 at *
  go_wp2_with (go_at_call 24; refine (tnBytes_any HM.out HOK.out HRI.out HB.out).mono ?_; rintro r w2 hp; rcases hp with ⟨h0, -⟩ | ⟨-, b, rfl, he, f2⟩; exact absurd h0 HS.out; have HE := Lib.hid he; have F2 := Lib.hid (F1.out.trans f2); have Y2 := Lib.hid (f2.heap Y1.out (fun h => h)); clear he f2)
  refine (wrap_err _ HE.out).mono ?_
  rintro r w3 ⟨b3, rfl, he3, f3⟩
  have HE3 := Lib.hid he3
  have F3 := Lib.hid (F2.out.trans f3)
  have Y3 := Lib.hid (f3.heap Y2.out (fun h => h))
  clear he3 f3
  obtain ⟨d0, d1, d2, d3, d4, d5⟩ := cells6' Y3.out
  have z := fun i => free_row Y3.out i
  go_wp2_with fail
  obtain ⟨Y6, f6⟩ := put6 Y3.out (.int .u32 0) (.int .u32 0) (.int .u8 0) (.int .u16 0) (.int .u16 0) (.slice none 0 0)
  clear d0 d1 d2 d3 d4 d5 z k0 LK
  have HE6 := Lib.hid (Err.is6 HE3.out Y3.out pk_types.1 f6)
  have F6 := Lib.hid (F3.out.then f6 (fun i hi (h : i = w.heap.size) => by omega))
  clear f6
  generalize ((((((w3.setCell ⟨w.heap.size, 0, none⟩ (.int .u32 0)).setCell ⟨w.heap.size, 1, none⟩ (.int .u32 0)).setCell ⟨w.heap.size, 2, none⟩ (.int .u8 0)).setCell ⟨w.heap.size, 3, none⟩ (.int .u16 0)).setCell ⟨w.heap.size, 4, none⟩ (.int .u16 0)).setCell ⟨w.heap.size, 5, none⟩ (.slice none 0 0)) = w6 at *
  obtain ⟨d0, d1, d2, d3, d4, d5⟩ := cells6' Y6
  refine bodyPost_ret (v := .tuple #[.agg #[.int .u32 0, .int .u32 0, .int .u8 0, .int .u16 0, .int .u16 0, .slice none 0 0], .iface 107 (.pointer (some ⟨b3, 0, none⟩))]) (by simp [results, Try.results12, go_sem, d0, d1, d2, d3, d4, d5]) rfl ⟨HT.out.no F6.out, F6.out.of_no, _, rfl, HE6.out⟩
theorem TbAt.look_in {S : Nat → Prop} {w : World} {tb mb : Nat} {L : TM} {A : TA} (h : TbAt S w tb mb L A) {n : Int} (hn : okK n) {b : Nat} {e : TE} (hin : (n, b, e) ∈ L) :
    (Instr.lookup 67 (.map (some mb)) (.int .i64 n) false).run Try.prog w = .ok (.pointer (some ⟨b, 0, none⟩)) w := by
  have LK := h.mp.look (P := Try.prog) keK Try.underlying67 zeroTE (k := n) hn false
  have h2 : mget (L.map prT) n = some b := by rw [mget_pr, mget_of_mem h.nd hin]; rfl
  rw [h2] at LK
  exact LK
theorem EnAt'.only {S : Nat → Prop} {w : World} {eb : Nat} {e : TE} {m : EnM} (h : EnAt' S w eb e m) : TbOnly w (Is eb) := by
  rintro k rfl cs t f hc
  rw [h.box] at hc; cases hc; exact .inl rfl
/-- An entry whose number of what it sends turned. -/
theorem EnAt'.turn {S : Nat → Prop} {w w' : World} {eb : Nat} {e e' : TE} {m : EnM} (h : EnAt' S w eb e m) (hf : Fr (Is eb) w w') (ht : e'.t = e.t) (hl : e'.last = e.last)
    (hb : w'.heap[eb]? = some (.cells #[.int .i64 e.t.kind, .int .u32 (e.t.loc : Int), .int .u32 (e.t.pee : Int), .int .u32 (e.t.id : Int), .int .i64 e.t.seg, .slice m.oo m.on m.oc, .slice m.ko m.kn m.kc, .bool e.t.sum, .bool e.t.seq, .int .u32 (e'.next : Int), .pointer m.lp] 78 (0, 0))) : EnAt' S w' eb e' m :=
  ⟨by rw [ht]; exact hb, by rw [ht]; exact h.ow.beside hf h.only, by rw [hl]; exact h.lst.beside hf h.only, h.up, h.km⟩
set_option maxRecDepth 100000 in
set_option maxHeartbeats 3200000 in
theorem tnEncap_ok {S : Nat → Prop} {w : World} {tb : Nat} {A : TA} (h : Tb S w tb A) {n : Int} (hn : okK n) {e : TE} (hg : mget A.l n = some e) {fo : Option Addr} {fn fc : Nat} {fs : List UInt8} (hb : ∀ W, Fr S w W → Bs W fo fn fc fs) (hs : sizN fs = 0) :
    Calls Try.prog 12 #[.pointer (some ⟨tb, 0, none⟩), .int .i64 n, .slice fo fn fc] w (EncapOk S w tb (A.encap n fs)) := by
  have hR : A.encap n fs = (A.set n (nextT e), .ok (pkT e.t e.next fs)) := by unfold TA.encap; rw [hg]; simp only; rw [if_pos hs]
  rw [hR]
  obtain ⟨mb, L, h⟩ := h
  have H := Lib.hid h
  have f1 := (Fr.refl No w).alloc (.cells #[.int .u32 0, .int .u32 0, .int .u8 0, .int .u16 0, .int .u16 0, .slice none 0 0] 41)
  have Y1 := Lib.hid (heap_alloc_new w (.cells #[.int .u32 0, .int .u32 0, .int .u8 0, .int .u16 0, .int .u16 0, .slice none 0 0] 41))
  have hz1 : (w.alloc (.cells #[.int .u32 0, .int .u32 0, .int .u8 0, .int .u16 0, .int .u16 0, .slice none 0 0] 41)).heap.size = w.heap.size + 1 := by simp
  have h1 := h.no f1
  obtain ⟨eb, m, -, hmem, hm0⟩ := h.look_some hn hg
  have LK := h1.look_in hn hmem
  have hm := hm0.fr f1 (fun _ _ h => h)
  obtain ⟨k0, -⟩ := h1.cells
  have F1 := Lib.hid f1
  have HM0 := Lib.hid hm0
  have HM := Lib.hid hm
  have HMEM := Lib.hid hmem
  have hok := h.ok.ok _ (mget_some hg)
  have HOK := Lib.hid hok
  have HRI := Lib.hid (h.ok.right _ (mget_some hg))
  have HB := Lib.hid hb
  have HS := Lib.hid hs
  have HLT := Lib.hid h.lt
  have hebS : S eb := hm.up
  have hlt : eb < w.heap.size := h.lt eb hm.up
  have hnx : e.next < 4294967296 := hok.next
  obtain ⟨n2, hn2⟩ : ∃ n2, n2 = (e.next + 1) % 4294967296 := ⟨_, rfl⟩
  have HN2 := Lib.hid hn2
  have hw : IntKind.u32.wrap ((e.next : Int) + 1) = (n2 : Int) := by rw [IntKind.wrap_u32]; omega
  have hw2 : ((e.next : Int) + 1) % 4294967296 = (n2 : Int) := by omega
  have hn2b : n2 < 4294967296 := by omega
  clear h h1 f1 hn hg hR hm hm0 hb hs hmem hok hn2
  go_enter Try.func12, Try.ntmps12
  go_upto_region 1 with fail
  generalize w.alloc (.cells #[.int .u32 0, .int .u32 0, .int .u8 0, .int .u16 0, .int .u16 0, .slice none 0 0] 41) = w1 at *
  go_upto_region 7 with (go_at_call 24; refine (tnBytes_any HM.out HOK.out HRI.out (HB.out _ F1.out.of_no)).mono ?_; rintro r w2 hp; rcases hp with ⟨-, g, gc, rfl, ob, f2, hgn⟩ | ⟨h0, -⟩; rotate_left; exact absurd HS.out h0; have OB2 := Lib.hid ob; have OB2' := Lib.hid ob; have F2 := Lib.hid (F1.out.trans f2); have Y2 := Lib.hid (f2.heap Y1.out (fun h => h)); have FB := Lib.hid f2; have hz2 := f2.size; clear ob f2)
  clear k0 LK
  have M2 := Lib.hid ((HM.out.fr FB.out (fun _ _ h => h)) : EnAt' S w2 eb e m)
  obtain ⟨a0, a1, a2, a3, a4, a5, a6, a7, a8, a9, a10⟩ := cells11 M2.out.box
  have z9 := free_row M2.out.box 9
  go_upto_region 8 with fail
  have X3 := Lib.hid (set_row (cs' := #[.int .i64 e.t.kind, .int .u32 (e.t.loc : Int), .int .u32 (e.t.pee : Int), .int .u32 (e.t.id : Int), .int .i64 e.t.seg, .slice m.oo m.on m.oc, .slice m.ko m.kn m.kc, .bool e.t.sum, .bool e.t.seq, .int .u32 (n2 : Int), .pointer m.lp]) M2.out.box 9 (.int .u32 (n2 : Int)) (by simp))
  have f3 := Fr.setCell (Fr.refl (Is eb) w2) (p := ⟨eb, 9, none⟩) (.inl rfl) (.int .u32 (n2 : Int))
  have F3 := Lib.hid f3
  have OB3 := Lib.hid (OB2.out.fr f3 (fun a ha (h : a.block = eb) => by cases ha; simp only at h; omega))
  have Y3 := Lib.hid (f3.heap Y2.out (fun h : w.heap.size = eb => by omega))
  have hz3 : (w2.setCell ⟨eb, 9, none⟩ (.int .u32 (n2 : Int))).heap.size = w2.heap.size := by simp [World.setCell]
  have HB3 := Lib.hid (HB.out _ ((F2.out.of_no).trans (f3.mono (fun k _ (hk : k = eb) => by rw [hk]; exact hebS))))
  clear a0 a1 a2 a3 a4 a5 a6 a7 a8 a9 a10 z9 f3 hw hw2 OB2
  generalize w2.setCell ⟨eb, 9, none⟩ (.int .u32 (n2 : Int)) = w3 at *
  have SF : Hid (∀ W, Fr (Up w3.heap.size) w3 W → W.cell? ⟨eb, 1, none⟩ = some (.int .u32 (e.t.loc : Int)) ∧ W.cell? ⟨eb, 2, none⟩ = some (.int .u32 (e.t.pee : Int))) := Lib.hid (fun W f => by
    obtain ⟨a0, a1, a2, -⟩ := cells11 (f.heap X3.out (fun h : w3.heap.size ≤ eb => by omega))
    exact ⟨a1, a2⟩)
  obtain ⟨a1, a2⟩ := SF.out _ (Fr.refl _ _)
  go_region_held3 (fun W => W.cell? ⟨eb, 1, none⟩ = some (.int .u32 (e.t.loc : Int)) ∧ W.cell? ⟨eb, 2, none⟩ = some (.int .u32 (e.t.pee : Int)))
    (first | exact SF.out _ (Fr.refl _ _).drew | exact SF.out _ ((Fr.refl _ _).drew.alloc _) | exact SF.out _ ((Fr.refl _ _).alloc _).drew | go_keep) (fail)
  have X4 := Lib.hid (((Fr.refl No _).drew).heap (heap_alloc_new w3 (.cells #[.int .u32 (e.t.loc : Int), .int .u32 (e.t.pee : Int), .int .u8 47, .int .u16 0, .int .u16 0, .slice (some ⟨g, 0, none⟩) (encT e.t e.next fs).length gc] 41)) (fun h => h))
  have f4 := ((Fr.refl No w3).alloc (.cells #[.int .u32 (e.t.loc : Int), .int .u32 (e.t.pee : Int), .int .u8 47, .int .u16 0, .int .u16 0, .slice (some ⟨g, 0, none⟩) (encT e.t e.next fs).length gc] 41)).drew
  have hz4 : (w3.alloc (.cells #[.int .u32 (e.t.loc : Int), .int .u32 (e.t.pee : Int), .int .u8 47, .int .u16 0, .int .u16 0, .slice (some ⟨g, 0, none⟩) (encT e.t e.next fs).length gc] 41)).drew.heap.size = w3.heap.size + 1 := by simp [World.drew]
  have E4 := Lib.hid (f4.heap X3.out (fun h => h))
  have Y4 := Lib.hid (f4.heap Y3.out (fun h => h))
  have OB4 := Lib.hid (OB3.out.no f4)
  have HB4 := Lib.hid (HB3.out.no f4)
  have F4 := Lib.hid f4
  rw [hz3] at X4 hz4
  clear f4 a1 a2 SF
  generalize (w3.alloc (.cells #[.int .u32 (e.t.loc : Int), .int .u32 (e.t.pee : Int), .int .u8 47, .int .u16 0, .int .u16 0, .slice (some ⟨g, 0, none⟩) (encT e.t e.next fs).length gc] 41)).drew = w4 at *
  obtain ⟨a0, -⟩ := cells11 E4.out
  have hk := HRI.out.2.2.2.2.2
  rcases hk with ⟨k1, -, -⟩ | ⟨k2, -⟩ | ⟨k3, -⟩
  · have HK1 := Lib.hid k1
    rw [k1] at a0
    clear k1
    go_wp2_with (go_at_call 14; refine (tnPort_any HB4.out).mono ?_; rintro r w5 ⟨rfl, f5⟩; have F5 := Lib.hid f5; have X5 := Lib.hid (f5.heap X4.out (fun h => h)); have Y5 := Lib.hid (f5.heap Y4.out (fun h => h)); have E5 := Lib.hid (f5.heap E4.out (fun h => h)); have OB5 := Lib.hid (OB4.out.no f5); have hz5 := f5.size; obtain ⟨x0, x1, x2, x3, x4, x5⟩ := cells6' X5.out; have zx := fun i => free_row X5.out i; obtain ⟨d0, d1, d2, d3, d4, d5⟩ := cells6' Y5.out; have z := fun i => free_row Y5.out i; clear f5)
    clear x0 x1 x2 x3 x4 x5 zx d0 d1 d2 d3 d4 d5 z
    have fx := (((Fr.refl (Is w2.heap.size) w5).setCell (p := ⟨w2.heap.size, 2, none⟩) (.inl rfl) (.int .u8 17)).setCell (p := ⟨w2.heap.size, 3, none⟩) (.inl rfl) (.int .u16 (portOf fs : Int))).setCell (p := ⟨w2.heap.size, 4, none⟩) (.inl rfl) (.int .u16 4789)
    have Y6 := Lib.hid (fx.heap Y5.out (fun h : w.heap.size = w2.heap.size => by omega))
    have E6 := Lib.hid (fx.heap E5.out (fun h : eb = w2.heap.size => by omega))
    have hgx : g < w2.heap.size := by have := OB2'.out.2.lt ⟨g, 0, none⟩ rfl; exact this
    have OB6 := Lib.hid (OB5.out.fr fx (fun a ha (h : a.block = w2.heap.size) => by cases ha; simp only at h; omega))
    have FX := Lib.hid fx
    clear fx
    generalize ((w5.setCell ⟨w2.heap.size, 2, none⟩ (.int .u8 17)).setCell ⟨w2.heap.size, 3, none⟩ (.int .u16 (portOf fs : Int))).setCell ⟨w2.heap.size, 4, none⟩ (.int .u16 4789) = w6 at *
    obtain ⟨Y7, f7⟩ := put6 Y6.out (.int .u32 (e.t.loc : Int)) (.int .u32 (e.t.pee : Int)) (.int .u8 17) (.int .u16 (portOf fs : Int)) (.int .u16 4789) (.slice (some ⟨g, 0, none⟩) (encT e.t e.next fs).length gc)
    have E7 := Lib.hid (f7.heap E6.out (fun h : eb = w.heap.size => by omega))
    have OB7 := Lib.hid (OB6.out.fr f7 (fun a ha (h : a.block = w.heap.size) => by cases ha; simp only at h; omega))
    have F7 := Lib.hid f7
    clear f7
    generalize ((((((w6.setCell ⟨w.heap.size, 0, none⟩ (.int .u32 (e.t.loc : Int))).setCell ⟨w.heap.size, 1, none⟩ (.int .u32 (e.t.pee : Int))).setCell ⟨w.heap.size, 2, none⟩ (.int .u8 17)).setCell ⟨w.heap.size, 3, none⟩ (.int .u16 (portOf fs : Int))).setCell ⟨w.heap.size, 4, none⟩ (.int .u16 4789)).setCell ⟨w.heap.size, 5, none⟩ (.slice (some ⟨g, 0, none⟩) (encT e.t e.next fs).length gc)) = w7 at *
    obtain ⟨d0, d1, d2, d3, d4, d5⟩ := cells6' Y7
    have hp : pkT e.t e.next fs = ⟨e.t.loc, e.t.pee, 17, portOf fs, 4789, encT e.t e.next fs⟩ := by unfold pkT; simp [HK1.out]
    have ft : Fr (Is eb) w w7 := ((((F2.out.of_no.trans F3.out).trans F4.out.of_no).trans F5.out.of_no).then FX.out (fun i hi (h : i = w2.heap.size) => by omega)).then F7.out (fun i hi (h : i = w.heap.size) => by omega)
    refine bodyPost_ret (v := .tuple #[.agg #[.int .u32 (e.t.loc : Int), .int .u32 (e.t.pee : Int), .int .u8 17, .int .u16 (portOf fs : Int), .int .u16 4789, .slice (some ⟨g, 0, none⟩) (encT e.t e.next fs).length gc], .nilIface]) (by simp [results, Try.results12, go_sem, d0, d1, d2, d3, d4, d5]) rfl ?_
    rw [hp]
    exact ⟨⟨mb, _, H.out.upd HMEM.out (e' := nextT e) rfl ⟨HOK.out.t, by unfold nextT; simp only; omega, HOK.out.last⟩ ft (HM0.out.turn ft rfl rfl (by rw [show (nextT e).next = n2 from HN2.out.symm]; exact E7.out)) (fun k hk => hk) (fun k hk => Nat.lt_of_lt_of_le (HLT.out k hk) ft.size)⟩, ft.mono (fun k _ (hk : k = eb) => by rw [hk]; exact hebS), g, gc, rfl, OB7.out, by omega⟩
  · have HK1 := Lib.hid k2
    rw [k2] at a0
    clear k2
    go_wp2_with (go_at_call 14; refine (tnPort_any HB4.out).mono ?_; rintro r w5 ⟨rfl, f5⟩; have F5 := Lib.hid f5; have X5 := Lib.hid (f5.heap X4.out (fun h => h)); have Y5 := Lib.hid (f5.heap Y4.out (fun h => h)); have E5 := Lib.hid (f5.heap E4.out (fun h => h)); have OB5 := Lib.hid (OB4.out.no f5); have hz5 := f5.size; obtain ⟨x0, x1, x2, x3, x4, x5⟩ := cells6' X5.out; have zx := fun i => free_row X5.out i; obtain ⟨d0, d1, d2, d3, d4, d5⟩ := cells6' Y5.out; have z := fun i => free_row Y5.out i; clear f5)
    clear x0 x1 x2 x3 x4 x5 zx d0 d1 d2 d3 d4 d5 z
    have fx := (((Fr.refl (Is w2.heap.size) w5).setCell (p := ⟨w2.heap.size, 2, none⟩) (.inl rfl) (.int .u8 17)).setCell (p := ⟨w2.heap.size, 3, none⟩) (.inl rfl) (.int .u16 (portOf fs : Int))).setCell (p := ⟨w2.heap.size, 4, none⟩) (.inl rfl) (.int .u16 6081)
    have Y6 := Lib.hid (fx.heap Y5.out (fun h : w.heap.size = w2.heap.size => by omega))
    have E6 := Lib.hid (fx.heap E5.out (fun h : eb = w2.heap.size => by omega))
    have hgx : g < w2.heap.size := by have := OB2'.out.2.lt ⟨g, 0, none⟩ rfl; exact this
    have OB6 := Lib.hid (OB5.out.fr fx (fun a ha (h : a.block = w2.heap.size) => by cases ha; simp only at h; omega))
    have FX := Lib.hid fx
    clear fx
    generalize ((w5.setCell ⟨w2.heap.size, 2, none⟩ (.int .u8 17)).setCell ⟨w2.heap.size, 3, none⟩ (.int .u16 (portOf fs : Int))).setCell ⟨w2.heap.size, 4, none⟩ (.int .u16 6081) = w6 at *
    obtain ⟨Y7, f7⟩ := put6 Y6.out (.int .u32 (e.t.loc : Int)) (.int .u32 (e.t.pee : Int)) (.int .u8 17) (.int .u16 (portOf fs : Int)) (.int .u16 6081) (.slice (some ⟨g, 0, none⟩) (encT e.t e.next fs).length gc)
    have E7 := Lib.hid (f7.heap E6.out (fun h : eb = w.heap.size => by omega))
    have OB7 := Lib.hid (OB6.out.fr f7 (fun a ha (h : a.block = w.heap.size) => by cases ha; simp only at h; omega))
    have F7 := Lib.hid f7
    clear f7
    generalize ((((((w6.setCell ⟨w.heap.size, 0, none⟩ (.int .u32 (e.t.loc : Int))).setCell ⟨w.heap.size, 1, none⟩ (.int .u32 (e.t.pee : Int))).setCell ⟨w.heap.size, 2, none⟩ (.int .u8 17)).setCell ⟨w.heap.size, 3, none⟩ (.int .u16 (portOf fs : Int))).setCell ⟨w.heap.size, 4, none⟩ (.int .u16 6081)).setCell ⟨w.heap.size, 5, none⟩ (.slice (some ⟨g, 0, none⟩) (encT e.t e.next fs).length gc)) = w7 at *
    obtain ⟨d0, d1, d2, d3, d4, d5⟩ := cells6' Y7
    have hp : pkT e.t e.next fs = ⟨e.t.loc, e.t.pee, 17, portOf fs, 6081, encT e.t e.next fs⟩ := by unfold pkT; simp [HK1.out]
    have ft : Fr (Is eb) w w7 := ((((F2.out.of_no.trans F3.out).trans F4.out.of_no).trans F5.out.of_no).then FX.out (fun i hi (h : i = w2.heap.size) => by omega)).then F7.out (fun i hi (h : i = w.heap.size) => by omega)
    refine bodyPost_ret (v := .tuple #[.agg #[.int .u32 (e.t.loc : Int), .int .u32 (e.t.pee : Int), .int .u8 17, .int .u16 (portOf fs : Int), .int .u16 6081, .slice (some ⟨g, 0, none⟩) (encT e.t e.next fs).length gc], .nilIface]) (by simp [results, Try.results12, go_sem, d0, d1, d2, d3, d4, d5]) rfl ?_
    rw [hp]
    exact ⟨⟨mb, _, H.out.upd HMEM.out (e' := nextT e) rfl ⟨HOK.out.t, by unfold nextT; simp only; omega, HOK.out.last⟩ ft (HM0.out.turn ft rfl rfl (by rw [show (nextT e).next = n2 from HN2.out.symm]; exact E7.out)) (fun k hk => hk) (fun k hk => Nat.lt_of_lt_of_le (HLT.out k hk) ft.size)⟩, ft.mono (fun k _ (hk : k = eb) => by rw [hk]; exact hebS), g, gc, rfl, OB7.out, by omega⟩
  · have HK1 := Lib.hid k3
    rw [k3] at a0
    clear k3
    obtain ⟨x0, x1, x2, x3, x4, x5⟩ := cells6' X4.out
    obtain ⟨d0, d1, d2, d3, d4, d5⟩ := cells6' Y4.out
    have z := fun i => free_row Y4.out i
    go_wp2_with fail
    clear x0 x1 x2 x3 x4 x5 d0 d1 d2 d3 d4 d5 z
    obtain ⟨Y7, f7⟩ := put6 Y4.out (.int .u32 (e.t.loc : Int)) (.int .u32 (e.t.pee : Int)) (.int .u8 47) (.int .u16 0) (.int .u16 0) (.slice (some ⟨g, 0, none⟩) (encT e.t e.next fs).length gc)
    have E7 := Lib.hid (f7.heap E4.out (fun h : eb = w.heap.size => by omega))
    have OB7 := Lib.hid (OB4.out.fr f7 (fun a ha (h : a.block = w.heap.size) => by cases ha; simp only at h; omega))
    have F7 := Lib.hid f7
    clear f7
    generalize ((((((w4.setCell ⟨w.heap.size, 0, none⟩ (.int .u32 (e.t.loc : Int))).setCell ⟨w.heap.size, 1, none⟩ (.int .u32 (e.t.pee : Int))).setCell ⟨w.heap.size, 2, none⟩ (.int .u8 47)).setCell ⟨w.heap.size, 3, none⟩ (.int .u16 0)).setCell ⟨w.heap.size, 4, none⟩ (.int .u16 0)).setCell ⟨w.heap.size, 5, none⟩ (.slice (some ⟨g, 0, none⟩) (encT e.t e.next fs).length gc)) = w7 at *
    obtain ⟨d0, d1, d2, d3, d4, d5⟩ := cells6' Y7
    have hp : pkT e.t e.next fs = ⟨e.t.loc, e.t.pee, 47, 0, 0, encT e.t e.next fs⟩ := by unfold pkT; simp [HK1.out]
    have ft : Fr (Is eb) w w7 := ((F2.out.of_no.trans F3.out).trans F4.out.of_no).then F7.out (fun i hi (h : i = w.heap.size) => by omega)
    refine bodyPost_ret (v := .tuple #[.agg #[.int .u32 (e.t.loc : Int), .int .u32 (e.t.pee : Int), .int .u8 47, .int .u16 0, .int .u16 0, .slice (some ⟨g, 0, none⟩) (encT e.t e.next fs).length gc], .nilIface]) (by simp [results, Try.results12, go_sem, d0, d1, d2, d3, d4, d5]) rfl ?_
    rw [hp]
    exact ⟨⟨mb, _, H.out.upd HMEM.out (e' := nextT e) rfl ⟨HOK.out.t, by unfold nextT; simp only; omega, HOK.out.last⟩ ft (HM0.out.turn ft rfl rfl (by rw [show (nextT e).next = n2 from HN2.out.symm]; exact E7.out)) (fun k hk => hk) (fun k hk => Nat.lt_of_lt_of_le (HLT.out k hk) ft.size)⟩, ft.mono (fun k _ (hk : k = eb) => by rw [hk]; exact hebS), g, gc, rfl, OB7.out, by omega⟩
end Go.Proofs.Ythoppkklooomgaa