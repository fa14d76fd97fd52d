/- tunnel: own. -/
import Derived.Test.YthoppkklooomgaaTnR
import Derived.Deep.RegionHeld3
namespace Go.Proofs.Ythoppkklooomgaa
open Go.RowKit
set_option linter.unusedVariables false
set_option linter.unusedSimpArgs false
/-- A tunnel whose slices are owned, all of them in S. -/
structure TnOw (S : Nat → Prop) (w : World) (t : Tn) (oo : Option Addr) (on oc : Nat) (ad : List (Option Addr × Nat)) (ko : Option Addr) (kn kc : Nat) : Prop where
  os : Ro S w oo on oc t.os ad
  ks : OU w ko kn kc t.ks
  up : ∀ a, ko = some a → S a.block
theorem TnOw.fr {S U : Nat → Prop} {w w' : World} {t : Tn} {oo : Option Addr} {on oc : Nat} {ad : List (Option Addr × Nat)} {ko : Option Addr} {kn kc : Nat} (h : TnOw S w t oo on oc ad ko kn kc) (hf : Fr U w w') (hs : ∀ k, S k → ¬ U k) : TnOw S w' t oo on oc ad ko kn kc :=
  ⟨h.os.fr hf hs, h.ks.fr hf (fun a ha => hs _ (h.up a ha)), h.up⟩
theorem TnOw.no {S : Nat → Prop} {w w' : World} {t : Tn} {oo : Option Addr} {on oc : Nat} {ad : List (Option Addr × Nat)} {ko : Option Addr} {kn kc : Nat} (h : TnOw S w t oo on oc ad ko kn kc) (hf : Fr No w w') : TnOw S w' t oo on oc ad ko kn kc := h.fr hf (fun _ _ h => h)
theorem TnOw.mono {S S' : Nat → Prop} {w : World} {t : Tn} {oo : Option Addr} {on oc : Nat} {ad : List (Option Addr × Nat)} {ko : Option Addr} {kn kc : Nat} (h : TnOw S w t oo on oc ad ko kn kc) (hs : ∀ k, S k → S' k) : TnOw S' w t oo on oc ad ko kn kc :=
  ⟨h.os.mono hs, h.ks, fun a ha => hs _ (h.up a ha)⟩
theorem TnOw.rd {S : Nat → Prop} {w : World} {t : Tn} {oo : Option Addr} {on oc : Nat} {ad : List (Option Addr × Nat)} {ko : Option Addr} {kn kc : Nat} (h : TnOw S w t oo on oc ad ko kn kc) (ho : t.ok) (h1 : on ≤ 4398046511104) (h2 : kn ≤ mostU) : TnRd w t oo on oc ko kn kc :=
  ⟨ho, h.os.rs, h.ks.us, h1, h2⟩

def OwnOk (w : World) (t : Tn) (on kn : Nat) (e : Ending) (w' : World) : Prop :=
  ∃ (oo : Option Addr) (oc : Nat) (ad : List (Option Addr × Nat)) (ko : Option Addr) (kc : Nat),
    e = .returned (.agg #[.int .i64 t.kind, .int .u32 (t.loc : Int), .int .u32 (t.pee : Int), .int .u32 (t.id : Int), .int .i64 t.seg, .slice oo on oc, .slice ko kn kc, .bool t.sum, .bool t.seq]) ∧
    TnOw (Up w.heap.size) w' t oo on oc ad ko kn kc ∧ Fr No w w'
theorem right_small {t : Tn} (h : RightT t) : t.os.length ≤ 63 ∧ ∀ o ∈ t.os, o.b.length ≤ 124 := by
  obtain ⟨h1, h2⟩ := right_zero h.2.2.2.2.1
  have key : ∀ l : List Opt, 4 * l.length ≤ osum l := by
    intro l
    induction l with
    | nil => simp [osum]
    | cons x l ih => simp [osum]; omega
  refine ⟨by have := key t.os; omega, fun o ho => ?_⟩
  have := h1 o ho
  simp [badO] at this
  omega
theorem set9 {w : World} {b t : Nat} {cs cs' : Array Value} (h : w.heap[b]? = some (.cells cs t (0, 0))) (i : Nat) (v : Value) (hc : cs.setIfInBounds i v = cs') : (w.setCell ⟨b, i, none⟩ v).heap[b]? = some (.cells cs' t (0, 0)) := set_row h i v hc
/-- Nine cells written, one behind the other. -/
theorem put9 {w : World} {b t : Nat} {c0 c1 c2 c3 c4 c5 c6 c7 c8 : Value} (h : w.heap[b]? = some (.cells #[c0, c1, c2, c3, c4, c5, c6, c7, c8] t (0, 0))) (v0 v1 v2 v3 v4 v5 v6 v7 v8 : Value) :
    (((((((((w.setCell ⟨b, 0, none⟩ v0).setCell ⟨b, 1, none⟩ v1).setCell ⟨b, 2, none⟩ v2).setCell ⟨b, 3, none⟩ v3).setCell ⟨b, 4, none⟩ v4).setCell ⟨b, 5, none⟩ v5).setCell ⟨b, 6, none⟩ v6).setCell ⟨b, 7, none⟩ v7).setCell ⟨b, 8, none⟩ v8).heap[b]? = some (.cells #[v0, v1, v2, v3, v4, v5, v6, v7, v8] t (0, 0)) ∧
    Fr (Is b) w (((((((((w.setCell ⟨b, 0, none⟩ v0).setCell ⟨b, 1, none⟩ v1).setCell ⟨b, 2, none⟩ v2).setCell ⟨b, 3, none⟩ v3).setCell ⟨b, 4, none⟩ v4).setCell ⟨b, 5, none⟩ v5).setCell ⟨b, 6, none⟩ v6).setCell ⟨b, 7, none⟩ v7).setCell ⟨b, 8, none⟩ v8) := by
  refine ⟨?_, ((((((((((Fr.refl (Is b) w).setCell (p := ⟨b, 0, none⟩) (.inl (show b = b from rfl)) v0).setCell (p := ⟨b, 1, none⟩) (.inl (show b = b from rfl)) v1).setCell (p := ⟨b, 2, none⟩) (.inl (show b = b from rfl)) v2).setCell (p := ⟨b, 3, none⟩) (.inl (show b = b from rfl)) v3).setCell (p := ⟨b, 4, none⟩) (.inl (show b = b from rfl)) v4).setCell (p := ⟨b, 5, none⟩) (.inl (show b = b from rfl)) v5).setCell (p := ⟨b, 6, none⟩) (.inl (show b = b from rfl)) v6).setCell (p := ⟨b, 7, none⟩) (.inl (show b = b from rfl)) v7).setCell (p := ⟨b, 8, none⟩) (.inl (show b = b from rfl)) v8)⟩
  have h0 := set_row (cs' := #[v0, c1, c2, c3, c4, c5, c6, c7, c8]) h 0 v0 (by simp)
  have h1 := set_row (cs' := #[v0, v1, c2, c3, c4, c5, c6, c7, c8]) h0 1 v1 (by simp)
  have h2 := set_row (cs' := #[v0, v1, v2, c3, c4, c5, c6, c7, c8]) h1 2 v2 (by simp)
  have h3 := set_row (cs' := #[v0, v1, v2, v3, c4, c5, c6, c7, c8]) h2 3 v3 (by simp)
  have h4 := set_row (cs' := #[v0, v1, v2, v3, v4, c5, c6, c7, c8]) h3 4 v4 (by simp)
  have h5 := set_row (cs' := #[v0, v1, v2, v3, v4, v5, c6, c7, c8]) h4 5 v5 (by simp)
  have h6 := set_row (cs' := #[v0, v1, v2, v3, v4, v5, v6, c7, c8]) h5 6 v6 (by simp)
  have h7 := set_row (cs' := #[v0, v1, v2, v3, v4, v5, v6, v7, c8]) h6 7 v7 (by simp)
  have h8 := set_row (cs' := #[v0, v1, v2, v3, v4, v5, v6, v7, v8]) h7 8 v8 (by simp)
  exact h8
theorem opt_types : 38 ≠ 27 ∧ 5 ≠ 27 ∧ 22 ≠ 27 ∧ 38 ≠ 78 ∧ 5 ≠ 78 ∧ 22 ≠ 78 ∧ 38 ≠ 69 ∧ 5 ≠ 69 ∧ 22 ≠ 69 ∧ 78 ≠ 69 := by decide

set_option maxRecDepth 100000 in
set_option maxHeartbeats 1600000 in
theorem tnOwn_any {w : World} {t : Tn} {oo : Option Addr} {on oc : Nat} {ko : Option Addr} {kn kc : Nat} (h : TnRd w t oo on oc ko kn kc) (hr : RightT t) :
    Calls Try.prog 22 #[.agg #[.int .i64 t.kind, .int .u32 (t.loc : Int), .int .u32 (t.pee : Int), .int .u32 (t.id : Int), .int .i64 t.seg, .slice oo on oc, .slice ko kn kc, .bool t.sum, .bool t.seq]] w (OwnOk w t on kn) := by
  obtain ⟨hs1, hs2⟩ := right_small hr
  have HS2 := Lib.hid hs2
  have HO := Lib.hid h.os
  have HL := Lib.hid h.os.len
  have HK := Lib.hid h.ks
  have HM := Lib.hid h.km
  have hon : on ≤ 63 := by rw [h.os.len]; exact hs1
  have hg1 := h.os.le
  have hg2 := h.os.capLe
  have h1 := h.ks.2.le
  have h2 := h.ks.2.capLe
  clear h hr hs1 hs2
  obtain ⟨kind, loc, pee, id, seg, os, ks, sum, seq⟩ := t
  simp only at HO HL HK HS2 ⊢
  have X0 := Lib.hid (heap_alloc_new w (.cells #[.int .i64 kind, .int .u32 (loc : Int), .int .u32 (pee : Int), .int .u32 (id : Int), .int .i64 seg, .slice oo on oc, .slice ko kn kc, .bool sum, .bool seq] 27))
  have F0 := Lib.hid ((Fr.refl No w).alloc (.cells #[.int .i64 kind, .int .u32 (loc : Int), .int .u32 (pee : Int), .int .u32 (id : Int), .int .i64 seg, .slice oo on oc, .slice ko kn kc, .bool sum, .bool seq] 27))
  have hz0 : (w.alloc (.cells #[.int .i64 kind, .int .u32 (loc : Int), .int .u32 (pee : Int), .int .u32 (id : Int), .int .i64 seg, .slice oo on oc, .slice ko kn kc, .bool sum, .bool seq] 27)).heap.size = w.heap.size + 1 := by simp
  go_enter Try.func22, Try.ntmps22
  go_wp2_with fail
  generalize w.alloc (.cells #[.int .i64 kind, .int .u32 (loc : Int), .int .u32 (pee : Int), .int .u32 (id : Int), .int .i64 seg, .slice oo on oc, .slice ko kn kc, .bool sum, .bool seq] 27) = w0 at *
  have Y1 := Lib.hid (heap_alloc_new w0 (.cells #[.int .i64 0, .int .u32 0, .int .u32 0, .int .u32 0, .int .i64 0, .slice none 0 0, .slice none 0 0, .bool false, .bool false] 27))
  have f1 := ((Fr.refl No w0).alloc (.cells #[.int .i64 0, .int .u32 0, .int .u32 0, .int .u32 0, .int .i64 0, .slice none 0 0, .slice none 0 0, .bool false, .bool false] 27))
  have X1 := Lib.hid (f1.heap X0.out (fun h => h))
  have F1 := Lib.hid (F0.out.trans f1)
  have hz1 : (w0.alloc (.cells #[.int .i64 0, .int .u32 0, .int .u32 0, .int .u32 0, .int .i64 0, .slice none 0 0, .slice none 0 0, .bool false, .bool false] 27)).heap.size = w.heap.size + 2 := by simp [hz0]
  rw [hz0] at Y1
  generalize w0.alloc (.cells #[.int .i64 0, .int .u32 0, .int .u32 0, .int .u32 0, .int .i64 0, .slice none 0 0, .slice none 0 0, .bool false, .bool false] 27) = w1 at *
  clear f1 X0 F0 hz0
  clear w0
  refine (cloneU_any (HK.out.no F1.out) HM.out).mono ?_
  rintro e w2 ⟨ko', kc', rfl, ok, fk, hk⟩
  have OK2 := Lib.hid ok
  have UP2 := Lib.hid hk
  have X2 := Lib.hid (fk.heap X1.out (fun h => h))
  have Y2 := Lib.hid (fk.heap Y1.out (fun h => h))
  have hz2 := fk.size
  have F2 := Lib.hid (F1.out.trans fk)
  clear ok fk hk X1 Y1 F1
  obtain ⟨-, -, -, -, -, c5, c6, -⟩ := cells9 X2.out
  have z6 := free_row X2.out 6
  have hne : w.heap.size ≠ w.heap.size + 1 := by omega
  have X3 := Lib.hid (set_row (cs' := #[.int .i64 kind, .int .u32 (loc : Int), .int .u32 (pee : Int), .int .u32 (id : Int), .int .i64 seg, .slice oo on oc, .slice ko' kn kc', .bool sum, .bool seq]) X2.out 6 (.slice ko' kn kc') (by simp))
  have f3 := Fr.setCell (Fr.refl (Is w.heap.size) w2) (p := ⟨w.heap.size, 6, none⟩) (.inl rfl) (.slice ko' kn kc')
  have Y3 := Lib.hid (f3.heap Y2.out (fun h => by simp only [Is] at h; omega))
  have hkn : ∀ a, ko' = some a → a.block ≠ w.heap.size := fun a ha => by have := UP2.out a ha; omega
  have OK3 := Lib.hid (OK2.out.fr f3 (fun a ha hs => hkn a ha hs))
  have F3 := Lib.hid (F2.out.then f3 (fun i hi (h : i = w.heap.size) => by omega))
  have hz3 := f3.size
  clear f3 hkn X2 Y2 OK2
  go_wp2_with fail
  generalize w2.setCell ⟨w.heap.size, 6, none⟩ (.slice ko' kn kc') = w3 at *
  clear c5 c6 z6
  go_loopw [3, 13] (fun s3 s13 wr => ∃ (k : Nat) (co : Option Addr) (cap : Nat) (ad : List (Option Addr × Nat)), s13 = .int .i64 k ∧ k ≤ on ∧ s3 = .slice co k cap ∧ Ro (Up w3.heap.size) wr co k cap (os.take k) ad ∧ Fr No w3 wr) (fun _ s13 _ => on - (intOf s13).toNat)
  case atStart => exact ⟨0, none, 0, [], rfl, by omega, rfl, Ro.nil _ _, Fr.refl _ _⟩
  case round =>
    obtain ⟨k, co, cap, ad, rfl, hk, rfl, hro, hf⟩ := hrel
    have HR := Lib.hid hro
    have G1 := Lib.hid hf
    have lwr := hf.size
    clear hro hf
    by_cases hlt : k < on
    · obtain ⟨a, o, rfl, hok, ⟨bo, bc, e3, e4, e5, e6⟩, hcl⟩ := (HO.out.no (F3.out.trans G1.out)).get k hlt
      have HOK := Lib.hid hok
      have HCL := Lib.hid hcl
      have E6 := Lib.hid e6
      have hol := HS2.out o (List.mem_of_getElem? hok)
      have ebc := e6.2.le
      have ebc2 := e6.2.capLe
      have X3' := heap_alloc_new wr (.cells #[.int .u16 (o.cls : Int), .int .u8 (o.typ.toNat : Int), .slice bo o.b.length bc] 38)
      have g4 := (Fr.refl No wr).alloc (.cells #[.int .u16 (o.cls : Int), .int .u8 (o.typ.toNat : Int), .slice bo o.b.length bc] 38)
      have hz4 : (wr.alloc (.cells #[.int .u16 (o.cls : Int), .int .u8 (o.typ.toNat : Int), .slice bo o.b.length bc] 38)).heap.size = wr.heap.size + 1 := by simp
      clear hok hcl e6
      go_wp2_with fail
      generalize hxe : wr.heap.size = x at *
      generalize wr.alloc (.cells #[.int .u16 (o.cls : Int), .int .u8 (o.typ.toNat : Int), .slice bo o.b.length bc] 38) = w4 at *
      have hco : ∀ a, co = some a → a.block < x := fun a ha => by have := HR.out.own.lt a ha; omega
      have SF : Hid (∀ W, Fr (At co) w4 W → W.cell? ⟨x, 0, none⟩ = some (.int .u16 (o.cls : Int)) ∧ W.cell? ⟨x, 1, none⟩ = some (.int .u8 (o.typ.toNat : Int)) ∧ W.cell? ⟨x, 2, none⟩ = some (.slice bo o.b.length bc)) := Lib.hid (fun W f => by
        have hx : ¬ At co x := by rintro ⟨a, ha, e⟩; have := hco a ha; omega
        exact cells3 (f.heap X3' hx))
      obtain ⟨c0, c1, c2⟩ := SF.out _ (Fr.refl _ _)
      have R4 := Lib.hid (HR.out.no g4)
      have G4 := Lib.hid (G1.out.trans g4)
      have E64 := Lib.hid ((E6.out.no g4).no ((Fr.refl No w4).drew))
      clear X3' hco g4 e3 e4 e5 HR E6
      go_region_held3 (fun W => W.cell? ⟨x, 0, none⟩ = some (.int .u16 (o.cls : Int)) ∧ W.cell? ⟨x, 1, none⟩ = some (.int .u8 (o.typ.toNat : Int)) ∧ W.cell? ⟨x, 2, none⟩ = some (.slice bo o.b.length bc))
        (first | exact SF.out _ (Fr.refl _ _).drew | exact SF.out _ F5.out.of_no | exact SF.out _ (F5.out.of_no.alloc _) | exact SF.out _ F6.out)
        (first
          | (go_at_call 28; refine (cloneB_any E64.out (by unfold big; omega)).mono ?_; rintro e w5 ⟨bo', bc', rfl, ob, f5, hn5⟩; have F5 := Lib.hid (((Fr.refl No w4).drew).then_no f5); have OB5 := Lib.hid ob; have HN5 := Lib.hid hn5; clear f5 ob hn5)
          | (refine step_append_opt (.tmp 17) (.tmp 26) rfl rfl rfl rfl (R4.out.own.no (F5.out.alloc _)) (Own.made (w := w5) (e := 38) (size := 3) _ 1 rfl (by decide)).sl rfl rfl rfl (by omega) ?_; intro co' cap' w6 ho f6 hd; obtain ⟨r6, f7⟩ := Ro.more (cls := o.cls) (typ := o.typ) R4.out G4.out F5.out OB5.out HN5.out HCL.out rfl ho f6 hd; have R6 := Lib.hid r6; have F7 := Lib.hid f7; have F6 := Lib.hid (((F5.out.alloc _).of_no.trans f6) : Fr (At co) w4 w6); clear ho f6 hd r6 f7))
      have R7 : Hid (Ro (Up w3.heap.size) w6 co' (k + 1) cap' (os.take (k + 1)) (ad ++ [(bo', bc')])) := Lib.hid (by rw [take_snoc HOK.out]; exact R6.out)
      clear SF c0 c1 c2 R4 G4 E64 F5 OB5 HN5 R6 F6 HOK HCL
      go_wp2_with fail
      go_roundw
      case rel => exact ⟨k + 1, co', cap', _, by go_num, by omega, rfl, R7.out, F7.out⟩
      case measure => simp [intOf]; omega
    · have hkn : k = on := by omega
      subst hkn
      have hall : os.take k = os := List.take_of_length_le (by rw [← HL.out]; exact Nat.le_refl _)
      rw [hall] at HR
      have XR := Lib.hid (G1.out.heap X3.out (fun h => h))
      have YR := Lib.hid (G1.out.heap Y3.out (fun h => h))
      have OKR := Lib.hid (OK3.out.no G1.out)
      have FR := Lib.hid (F3.out.trans G1.out)
      obtain ⟨c0, c1, c2, c3, c4, c5, c6, c7, c8⟩ := cells9 XR.out
      have z5 := free_row XR.out 5
      have hne2 : w.heap.size ≠ w.heap.size + 1 := by omega
      have X4 := Lib.hid (set_row (cs' := #[.int .i64 kind, .int .u32 (loc : Int), .int .u32 (pee : Int), .int .u32 (id : Int), .int .i64 seg, .slice co k cap, .slice ko' kn kc', .bool sum, .bool seq]) XR.out 5 (.slice co k cap) (by simp))
      have f4 := Fr.setCell (Fr.refl (Is w.heap.size) wr) (p := ⟨w.heap.size, 5, none⟩) (.inl rfl) (.slice co k cap)
      have Y4 := Lib.hid (f4.heap YR.out (fun h => by simp only [Is] at h; omega))
      have OK4 := Lib.hid (OKR.out.fr f4 (fun a ha (hs : a.block = w.heap.size) => by have := UP2.out a ha; omega))
      have R4 := Lib.hid (HR.out.fr f4 (fun i (hi : w3.heap.size ≤ i) (h : i = w.heap.size) => by omega))
      have F4 := Lib.hid (FR.out.then f4 (fun i hi (h : i = w.heap.size) => by omega))
      clear hall f4 XR YR OKR FR HR G1
      go_upto_region 9 with fail
      clear c0 c1 c2 c3 c4 c5 c6 c7 c8 z5
      generalize wr.setCell ⟨w.heap.size, 5, none⟩ (.slice co k cap) = w5 at *
      obtain ⟨c0, c1, c2, c3, c4, c5, c6, c7, c8⟩ := cells9 X4.out
      obtain ⟨d0, d1, d2, d3, d4, d5, d6, d7, d8⟩ := cells9 Y4.out
      have z := fun i => free_row Y4.out i
      go_wp2_with fail
      obtain ⟨Y6, f6⟩ := put9 Y4.out (.int .i64 kind) (.int .u32 (loc : Int)) (.int .u32 (pee : Int)) (.int .u32 (id : Int)) (.int .i64 seg) (.slice co k cap) (.slice ko' kn kc') (.bool sum) (.bool seq)
      clear c0 c1 c2 c3 c4 c5 c6 c7 c8 d0 d1 d2 d3 d4 d5 d6 d7 d8 z
      have OK6 := Lib.hid (OK4.out.fr f6 (fun a ha (hs : a.block = w.heap.size + 1) => by have := UP2.out a ha; omega))
      have R6 := Lib.hid (R4.out.fr f6 (fun i (hi : w3.heap.size ≤ i) (h : i = w.heap.size + 1) => by omega))
      have F6 := Lib.hid (F4.out.then f6 (fun i hi (h : i = w.heap.size + 1) => by omega))
      clear f6
      generalize (((((((((w5.setCell ⟨w.heap.size + 1, 0, none⟩ (.int .i64 kind)).setCell ⟨w.heap.size + 1, 1, none⟩ (.int .u32 (loc : Int))).setCell ⟨w.heap.size + 1, 2, none⟩ (.int .u32 (pee : Int))).setCell ⟨w.heap.size + 1, 3, none⟩ (.int .u32 (id : Int))).setCell ⟨w.heap.size + 1, 4, none⟩ (.int .i64 seg)).setCell ⟨w.heap.size + 1, 5, none⟩ (.slice co k cap)).setCell ⟨w.heap.size + 1, 6, none⟩ (.slice ko' kn kc')).setCell ⟨w.heap.size + 1, 7, none⟩ (.bool sum)).setCell ⟨w.heap.size + 1, 8, none⟩ (.bool seq)) = w6 at *
      obtain ⟨d0, d1, d2, d3, d4, d5, d6, d7, d8⟩ := cells9 Y6
      refine bodyPost_ret (v := .agg #[.int .i64 kind, .int .u32 (loc : Int), .int .u32 (pee : Int), .int .u32 (id : Int), .int .i64 seg, .slice co k cap, .slice ko' kn kc', .bool sum, .bool seq]) (by simp [results, Try.results22, go_sem, d0, d1, d2, d3, d4, d5, d6, d7, d8]) rfl ⟨co, cap, ad, ko', kc', rfl, ?_, F6.out⟩
      exact ⟨R6.out.mono (fun i (hi : w3.heap.size ≤ i) => (show w.heap.size ≤ i by omega)), OK6.out, fun a ha => by have := UP2.out a ha; show w.heap.size ≤ a.block; omega⟩
end Go.Proofs.Ythoppkklooomgaa