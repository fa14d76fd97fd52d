/- the statements' 'shown' (layer 14). -/
import Derived.Test.YthoppkklooomgaaTnD
import Derived.Test.YthoppkklooomgaaErrText
namespace Go.Proofs.Ythoppkklooomgaa
open Go.RowKit
set_option linter.unusedVariables false
set_option linter.unusedSimpArgs false
theorem make20 (w : World) : (Instr.makeSlice 36 (.int .i64 20) (.int .i64 20)).run Try.prog w =
    .ok (.slice (some ⟨w.heap.size, 0, none⟩) 20 20) (w.alloc (.cells (List.replicate 20 (.int .u8 0)).toArray 5)) := by kernel_rfl
def zero20 : List UInt8 := List.replicate 20 0
theorem Err.wrongT {w : World} {v : Value} {s : ByteArray} {ls : List ByteArray} {n : Int} (h : Err w v (s :: ls) n) : ∃ b, v = .iface 107 (.pointer (some ⟨b, 0, none⟩)) := by
  cases h with
  | wrap h hv => exact ⟨_, rfl⟩
theorem short_tn : Short [tunnelS] := by
  refine ⟨fun s hs => ?_, by simp⟩
  simp only [List.mem_cons, List.not_mem_nil, or_false] at hs
  subst hs; decide
theorem shown14_txt : txt [tunnelS] 9 = ⟨#[116, 117, 110, 110, 101, 108, 58, 32, 101, 114, 114, 111, 114, 32, 57]⟩ := by decide +kernel
/-- Two tables that have nothing in common. -/
structure Two (SA SB : Nat → Prop) (w : World) (ta tb : Nat) (A B : TA) : Prop where
  a : Tb SA w ta A
  b : Tb SB w tb B
  dis : ∀ k, SA k → ¬ SB k
theorem Two.no {SA SB : Nat → Prop} {w w' : World} {ta tb : Nat} {A B : TA} (h : Two SA SB w ta tb A B) (hf : Fr No w w') : Two SA SB w' ta tb A B := ⟨h.a.no hf, h.b.no hf, h.dis⟩
theorem Two.stepA {SA SB SA' : Nat → Prop} {w w' : World} {ta tb : Nat} {A B A' : TA} (h : Two SA SB w ta tb A B) (ha : Tb SA' w' ta A') (hf : Fr SA w w') (hs : ∀ k, SA' k → SA k ∨ w.heap.size ≤ k) : Two SA' SB w' ta tb A' B :=
  ⟨ha, h.b.fr hf (fun k hk ha => h.dis k ha hk), fun k hk hb => by
    rcases hs k hk with h1 | h1
    · exact h.dis k h1 hb
    · have := h.b.lt k hb; omega⟩
theorem Two.stepB {SA SB SB' : Nat → Prop} {w w' : World} {ta tb : Nat} {A B B' : TA} (h : Two SA SB w ta tb A B) (hb : Tb SB' w' tb B') (hf : Fr SB w w') (hs : ∀ k, SB' k → SB k ∨ w.heap.size ≤ k) : Two SA SB' w' ta tb A B' :=
  ⟨h.a.fr hf (fun k hk hb => h.dis k hk hb), hb, fun k ha hk => by
    rcases hs k hk with h1 | h1
    · exact h.dis k ha h1
    · have := h.a.lt k ha; omega⟩
/-- All its memory is newer than B. -/
def NewS (B : Nat) (S : Nat → Prop) : Prop := ∀ k, S k → B ≤ k
theorem Fr.newS {S : Nat → Prop} {w0 w w' : World} (h : Fr No w0 w) (hf : Fr S w w') (hn : NewS w0.heap.size S) : Fr No w0 w' := h.then hf (fun i hi hs => by have := hn i hs; omega)
theorem NewS.more {B : Nat} {S S' : Nat → Prop} {n : Nat} (h : NewS B S) (hs : ∀ k, S' k → S k ∨ n ≤ k) (hn : B ≤ n) : NewS B S' := fun k hk => by
  rcases hs k hk with h1 | h1
  · exact h k h1
  · omega

def T14 : Tn := ⟨1, 1, 2, 7, 3, [], [], false, false⟩
def U14 : Tn := ⟨1, 2, 1, 7, 0, [], [], false, false⟩
def V14 : Tn := ⟨1, 1, 2, 7, 0, [], [], false, false⟩
def A14 (n : Nat) : TA := ⟨[(0, ⟨T14, n, none⟩)], 1⟩
def B14 : TA := ⟨[(0, ⟨U14, 0, none⟩)], 1⟩
theorem f14a : TA.add ⟨[], 0⟩ T14 = (A14 0, 0, 0) := by rfl
theorem f14b : TA.add ⟨[], 0⟩ U14 = (B14, 0, 0) := by rfl
theorem f14c : (A14 0).encap 0 zero20 = (A14 1, .ok (pkT T14 0 zero20)) := by
  unfold TA.encap
  rw [show mget (A14 0).l 0 = some ⟨T14, 0, none⟩ from rfl]
  simp only
  rw [if_pos (by decide +kernel)]
  rfl
theorem pk14 : pkT T14 0 zero20 = ⟨1, 2, 17, portOf zero20, 4789, vxOut 7 zero20⟩ := by
  unfold pkT encT
  simp [T14]
theorem vx14 : vxDec (vxOut 7 zero20) = .ok 7 zero20 := by rfl
theorem take14 (s sp : Nat) : takeP ⟨s, 2, 17, sp, 4789, vxOut 7 zero20⟩ = .ok 1 7 true [] false 0 zero20 := by
  unfold takeP
  simp only
  rw [if_pos ⟨trivial, trivial⟩, vx14]
theorem f14d (sp : Nat) : B14.decap ⟨1, 2, 17, sp, 4789, vxOut 7 zero20⟩ = (B14, .ok 0 zero20) := by
  unfold TA.decap
  rw [take14]
  simp only
  rw [show B14.find 1 2 1 7 true = .inl (0, ⟨U14, 0, none⟩) from rfl]
  rfl
theorem f14e (sp : Nat) : B14.decap ⟨9, 2, 17, sp, 4789, vxOut 7 zero20⟩ = (B14, .no [tunnelS] 9) := by
  unfold TA.decap
  rw [take14]
  simp only
  rw [show B14.find 1 2 9 7 true = .inr 9 from rfl]
theorem f14f : (A14 1).add V14 = (A14 1, 0, 8) := by rfl
theorem port_le (fs : List UInt8) : 49152 ≤ portOf fs ∧ portOf fs < 65536 := by unfold portOf; omega
theorem TnRd.bare (w : World) {t : Tn} (h : t.ok) (ho : t.os = []) (hk : t.ks = []) : TnRd w t none 0 0 none 0 0 :=
  ⟨h, by rw [ho]; exact ⟨rfl, Nat.le_refl _, by omega, fun _ => rfl, fun a h => (by cases h), fun o h => (by simp at h)⟩, by rw [hk]; exact ⟨rfl, Sl.nil w⟩, by omega, by unfold mostU; omega⟩
theorem okV14 : V14.ok := ⟨by decide, by decide, by decide, by decide, by decide, by simp [V14]⟩
theorem ok14 : T14.ok ∧ U14.ok := ⟨⟨by decide, by decide, by decide, by decide, by decide, by simp [T14]⟩, ⟨by decide, by decide, by decide, by decide, by decide, by simp [U14]⟩⟩

set_option maxRecDepth 100000 in
set_option maxHeartbeats 1600000 in
theorem shown14_any (w : World) : Calls Try.prog 9 #[] w (ShownOk w) := by
  have hmk := make20
  go_enter Try.func9, Try.ntmps9
  go_wp2_with fail
  refine (tnNew_any w).mono ?_
  rintro r w1 ⟨ta, SA, rfl, h1, f1, n1⟩
  have HA := Lib.hid h1
  have F1 := Lib.hid f1
  have NA := Lib.hid (show NewS w.heap.size SA from n1)
  have NLT := Lib.hid h1.lt
  clear h1 f1 n1
  go_wp2_with fail
  refine (tnNew_any w1).mono ?_
  rintro r w2 ⟨tb, SB, rfl, h2, f2, n2⟩
  have F2 := Lib.hid (F1.out.trans f2)
  have NB := Lib.hid (show NewS w.heap.size SB from fun k hk => Nat.le_trans F1.out.size (n2 k hk))
  have HT := Lib.hid (show Two SA SB w2 ta tb ⟨[], 0⟩ ⟨[], 0⟩ from ⟨HA.out.no f2, h2, fun k ha hb => by have := HA.out.lt k ha; have := n2 k hb; omega⟩)
  have NSA : Hid (∀ k, SA k → k < w2.heap.size) := Lib.hid HT.out.a.lt
  have NSB : Hid (∀ k, SB k → k < w2.heap.size) := Lib.hid HT.out.b.lt
  clear h2 f2 n2 HA F1 NLT
  go_upto_region 6 with fail
  clear hmk
  have z0 : OB (w2.alloc (.cells #[.int .u8 0, .int .u8 0, .int .u8 0, .int .u8 0, .int .u8 0, .int .u8 0, .int .u8 0, .int .u8 0, .int .u8 0, .int .u8 0, .int .u8 0, .int .u8 0, .int .u8 0, .int .u8 0, .int .u8 0, .int .u8 0, .int .u8 0, .int .u8 0, .int .u8 0, .int .u8 0] 5)) 5 (some ⟨w2.heap.size, 0, none⟩) 20 20 zero20 := OB.made zero20 (by decide) (by rfl) rfl rfl
  have f3 := (Fr.refl No w2).alloc (.cells #[.int .u8 0, .int .u8 0, .int .u8 0, .int .u8 0, .int .u8 0, .int .u8 0, .int .u8 0, .int .u8 0, .int .u8 0, .int .u8 0, .int .u8 0, .int .u8 0, .int .u8 0, .int .u8 0, .int .u8 0, .int .u8 0, .int .u8 0, .int .u8 0, .int .u8 0, .int .u8 0] 5)
  have Z3 := Lib.hid z0
  have T3 := Lib.hid (HT.out.no f3)
  have F3 := Lib.hid (F2.out.trans f3)
  have hz3 : w.heap.size ≤ w2.heap.size := F2.out.size
  clear z0 f3 HT F2
  generalize hze : w2.heap.size = z at *
  generalize w2.alloc (.cells #[.int .u8 0, .int .u8 0, .int .u8 0, .int .u8 0, .int .u8 0, .int .u8 0, .int .u8 0, .int .u8 0, .int .u8 0, .int .u8 0, .int .u8 0, .int .u8 0, .int .u8 0, .int .u8 0, .int .u8 0, .int .u8 0, .int .u8 0, .int .u8 0, .int .u8 0, .int .u8 0] 5) = w3 at *
  have ZA : Hid (¬ SA z) := Lib.hid (fun h => by have := NSA.out z h; omega)
  have ZB : Hid (¬ SB z) := Lib.hid (fun h => by have := NSB.out z h; omega)
  go_wp2_with fail
  refine (tnAdd_any T3.out.a (by show 0 < _; omega) (t := T14) (fun W f => TnRd.bare W ok14.1 rfl rfl)).mono ?_
  rw [f14a]
  rintro r w4 ⟨rfl, -, SA4, a4, f4, s4, -⟩
  have T4 := Lib.hid (T3.out.stepA a4 f4 s4)
  have NA4 := Lib.hid (NA.out.more s4 F3.out.size)
  have F4 := Lib.hid (F3.out.newS f4 NA.out)
  have Z4 := Lib.hid (Z3.out.fr f4 (fun a ha hs => by cases ha; exact ZA.out hs))
  have hzl : z < w3.heap.size := Z3.out.2.lt ⟨z, 0, none⟩ rfl
  have ZA4 : Hid (¬ SA4 z) := Lib.hid (fun h => by rcases s4 z h with h | h; exact ZA.out h; omega)
  clear a4 f4 s4 T3 F3 Z3 ZA NA NSA
  go_wp2_with fail
  refine (tnAdd_any T4.out.b (by show 0 < _; omega) (t := U14) (fun W f => TnRd.bare W ok14.2 rfl rfl)).mono ?_
  rw [f14b]
  rintro r w5 ⟨rfl, -, SB5, a5, f5, s5, -⟩
  have T5 := Lib.hid (T4.out.stepB a5 f5 s5)
  have NB5 := Lib.hid (NB.out.more s5 F4.out.size)
  have F5 := Lib.hid (F4.out.newS f5 NB.out)
  have Z5 := Lib.hid (Z4.out.fr f5 (fun a ha hs => by cases ha; exact ZB.out hs))
  have hzl4 : z < w4.heap.size := Z4.out.2.lt ⟨z, 0, none⟩ rfl
  have ZB5 : Hid (¬ SB5 z) := Lib.hid (fun h => by rcases s5 z h with h | h; exact ZB.out h; omega)
  clear a5 f5 s5 T4 F4 Z4 ZB NB NSB
  go_wp2_with fail
  refine (tnEncap_ok T5.out.a (n := 0) (by unfold okK; omega) (e := ⟨T14, 0, none⟩) rfl (fun W f => (Z5.out.fr f (fun a ha hs => by cases ha; exact ZA4.out hs)).bs) (by decide +kernel)).mono ?_
  rw [f14c]
  rintro r w6 ⟨a6, f6, hm⟩
  simp only at a6 hm
  rw [pk14] at hm
  obtain ⟨g, gc, rfl, ob6, hg6⟩ := hm
  have T5L := Lib.hid T5.out.b.lt
  have T6 := Lib.hid (T5.out.stepA a6 f6 (fun k hk => .inl hk))
  have F6 := Lib.hid (F5.out.newS f6 NA4.out)
  have OB6 := Lib.hid ob6
  have hp := port_le zero20
  obtain ⟨sp, hsp⟩ : ∃ sp, portOf zero20 = sp := ⟨_, rfl⟩
  rw [hsp] at hp ⊢
  obtain ⟨hp1, hp2⟩ := hp
  clear a6 f6 ob6 hsp T5 F5
  go_wp2_with fail
  have f7 := (Fr.refl No w6).alloc (.cells #[.int .u32 1, .int .u32 2, .int .u8 17, .int .u16 (sp : Int), .int .u16 4789, .slice (some ⟨g, 0, none⟩) (vxOut 7 zero20).length gc] 41)
  have Q7 := Lib.hid (heap_alloc_new w6 (.cells #[.int .u32 1, .int .u32 2, .int .u8 17, .int .u16 (sp : Int), .int .u16 4789, .slice (some ⟨g, 0, none⟩) (vxOut 7 zero20).length gc] 41))
  have T7 := Lib.hid (T6.out.no f7)
  have F7 := Lib.hid (F6.out.trans f7)
  have OB7 := Lib.hid (OB6.out.no f7)
  have hgl : g < w6.heap.size := OB6.out.2.lt ⟨g, 0, none⟩ rfl
  have hq0 : w.heap.size ≤ w6.heap.size := F6.out.size
  have QB : Hid (∀ k, SB5 k → k < w6.heap.size) := Lib.hid T6.out.b.lt
  have QA : Hid (∀ k, SA4 k → k < w6.heap.size) := Lib.hid T6.out.a.lt
  have GB : Hid (¬ SB5 g) := Lib.hid (fun h => by have := T5L.out g h; omega)
  clear f7 T6 F6 OB6
  generalize hqe : w6.heap.size = q at *
  generalize w6.alloc (.cells #[.int .u32 1, .int .u32 2, .int .u8 17, .int .u16 (sp : Int), .int .u16 4789, .slice (some ⟨g, 0, none⟩) (vxOut 7 zero20).length gc] 41) = w7 at *
  have hlen : (vxOut 7 zero20).length ≤ 20000 := by decide +kernel
  refine (tnDecap_any T7.out.b (by show 1 < _; omega) (p := ⟨1, 2, 17, sp, 4789, vxOut 7 zero20⟩) ⟨OB7.out.bs, hlen, by show 1 < _; omega, by show 2 < _; omega⟩).mono ?_
  rw [f14d]
  rintro r w8 ⟨SB8, b8, f8, s8, s8', g8, gc8, rfl, -⟩
  have T8 := Lib.hid (T7.out.stepB b8 f8 s8)
  have NB8 := Lib.hid (NB5.out.more s8 F7.out.size)
  have F8 := Lib.hid (F7.out.newS f8 NB5.out)
  have hql : q < w7.heap.size := lt_of_heap Q7.out
  have Q8 := Lib.hid (f8.heap Q7.out (fun h => by have := QB.out q h; omega))
  have OB8 := Lib.hid (OB7.out.fr f8 (fun a ha hs => by cases ha; exact GB.out hs))
  have QB8 : Hid (¬ SB8 q) := Lib.hid (fun h => by rcases s8 q h with h | h; have := QB.out q h; omega; omega)
  have QA8 : Hid (¬ SA4 q) := Lib.hid (fun h => by have := QA.out q h; omega)
  have GB8 : Hid (¬ SB8 g) := Lib.hid (fun h => by rcases s8 g h with h | h; exact GB.out h; omega)
  clear b8 f8 s8 s8' T7 F7 Q7 OB7 QB GB QA
  have c0 := (cells6' Q8.out).1
  have zq := free_row Q8.out 0
  go_upto_region 11 with fail
  have Q9 := Lib.hid (set_row (cs' := #[.int .u32 9, .int .u32 2, .int .u8 17, .int .u16 (sp : Int), .int .u16 4789, .slice (some ⟨g, 0, none⟩) (vxOut 7 zero20).length gc]) Q8.out 0 (.int .u32 9) (by simp))
  have f9 := Fr.setCell (Fr.refl (Is q) w8) (p := ⟨q, 0, none⟩) (.inl rfl) (.int .u32 9)
  have T9 := Lib.hid (show Two SA4 SB8 (w8.setCell ⟨q, 0, none⟩ (.int .u32 9)) ta tb (A14 1) B14 from ⟨T8.out.a.fr f9 (fun k hk (h : k = q) => QA8.out (h ▸ hk)), T8.out.b.fr f9 (fun k hk (h : k = q) => QB8.out (h ▸ hk)), T8.out.dis⟩)
  have F9 := Lib.hid (F8.out.then f9 (fun i hi (h : i = q) => by omega))
  have OB9 := Lib.hid (OB8.out.fr f9 (fun a ha (h : a.block = q) => by cases ha; simp only at h; omega))
  clear f9 c0 zq T8 F8 Q8 OB8
  generalize w8.setCell ⟨q, 0, none⟩ (.int .u32 9) = w9 at *
  obtain ⟨c0, c1, c2, c3, c4, c5⟩ := cells6' Q9.out
  go_wp2_with fail
  refine (tnDecap_any T9.out.b (by show 1 < _; omega) (p := ⟨9, 2, 17, sp, 4789, vxOut 7 zero20⟩) ⟨OB9.out.bs, hlen, by show 9 < _; omega, by show 2 < _; omega⟩).mono ?_
  rw [f14e]
  rintro r w10 ⟨SB10, b10, f10, s10, s10', v, rfl, he⟩
  obtain ⟨eb, rfl⟩ := he.wrongT
  have T10 := Lib.hid (T9.out.stepB b10 f10 s10)
  have F10 := Lib.hid (F9.out.newS f10 NB8.out)
  have Q10 := Lib.hid (f10.heap Q9.out (fun h => QB8.out h))
  have HE := Lib.hid he
  clear b10 f10 s10 s10' he T9 F9 Q9 OB9 c0 c1 c2 c3 c4 c5
  go_wp2_with fail
  refine (tnAdd_any T10.out.a (by show 1 < _; omega) (t := V14) (fun W f => TnRd.bare W okV14 rfl rfl)).mono ?_
  rw [f14f]
  rintro r w11 ⟨rfl, f11, -⟩
  replace f11 := f11 (by show (8 : Int) ≠ 0; decide)
  have F11 := Lib.hid (F10.out.trans f11)
  have Q11 := Lib.hid (f11.heap Q10.out (fun h => h))
  have HE11 : Hid (Err w11 (.iface 107 (.pointer (some ⟨eb, 0, none⟩))) [tunnelS] 9) := Lib.hid (HE.out.no f11)
  clear f11 T10 F10 Q10 HE
  obtain ⟨c0, c1, c2, c3, c4, c5⟩ := cells6' Q11.out
  have hmW := methodErrorW
  go_wp2_with (first
    | (go_at_call 107; refine (wrong_text (n := 9) HE11.out (.inl (by decide)) short_tn).mono ?_; rw [shown14_txt]; rintro e w12 ⟨rfl, m12, rfl⟩)
    | (go_at_call 16; refine (errIs_any HE11.out 9).mono ?_; rintro e w13 ⟨rfl, rfl⟩))
  go_ret
  exact ⟨rfl, F11.out.drewN _⟩
end Go.Proofs.Ythoppkklooomgaa