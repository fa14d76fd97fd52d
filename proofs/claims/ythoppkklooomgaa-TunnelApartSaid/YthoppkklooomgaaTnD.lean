/- tunnel: Decap. -/
import Derived.Test.YthoppkklooomgaaTnC
namespace Go.Proofs.Ythoppkklooomgaa
open Go.RowKit
set_option linter.unusedVariables false
set_option linter.unusedSimpArgs false
theorem tnTake_any {w : World} {p : Pk} {bo : Option Addr} {bn bc : Nat} (h : PkRd w p bo bn bc) :
    Calls Try.prog 25 #[.agg #[.int .u32 (p.src : Int), .int .u32 (p.dst : Int), .int .u8 (p.proto : Int), .int .u16 (p.sport : Int), .int .u16 (p.dport : Int), .slice bo bn bc]] w (TnTook w (takeP p)) := by
  by_cases h1 : p.proto = 17 ∧ p.dport = 4789
  · exact tnTake_vx h h1.1 h1.2
  by_cases h2 : p.proto = 17 ∧ p.dport = 6081
  · exact tnTake_gn h h2.1 h2.2
  by_cases h3 : p.proto = 47
  · exact tnTake_gre h h3
  have := tnTake_none h h1 h2 h3
  have hR : takeP p = .no [] 12 := by unfold takeP; rw [if_neg h1, if_neg h2, if_neg h3]
  rw [hR]; exact this
/-- What is taken: its numbers, and its frame's size. -/
theorem takeP_ok {p : Pk} {kind : Int} {id : Nat} {keyed : Bool} {os : List Opt} {seqed : Bool} {seq : Nat} {fs : List UInt8} (h : takeP p = .ok kind id keyed os seqed seq fs) :
    seq < 4294967296 ∧ 14 ≤ fs.length ∧ fs.length ≤ 9000 ∧ kind = (if p.proto = 17 ∧ p.dport = 4789 then 1 else if p.proto = 17 ∧ p.dport = 6081 then 2 else 3) ∧ (p.proto = 17 ∧ p.dport = 4789 ∨ p.proto = 17 ∧ p.dport = 6081 ∨ p.proto = 47) := by
  unfold takeP at h
  by_cases h1 : p.proto = 17 ∧ p.dport = 4789
  · rw [if_pos h1] at h
    cases hv : vxDec p.b with
    | no i c => rw [hv] at h; cases h
    | ok id' fs' =>
      rw [hv] at h
      simp only [TkR.ok.injEq] at h
      obtain ⟨rfl, rfl, rfl, rfl, rfl, rfl, rfl⟩ := h
      unfold vxDec at hv
      split at hv; · cases hv
      split at hv; · cases hv
      split at hv; · cases hv
      split at hv; · cases hv
      simp only [VxRes.ok.injEq] at hv
      obtain ⟨rfl, rfl⟩ := hv
      refine ⟨by omega, ?_, ?_, by rw [if_pos h1], .inl h1⟩ <;> (rw [List.length_drop]; omega)
  rw [if_neg h1] at h
  by_cases h2 : p.proto = 17 ∧ p.dport = 6081
  · rw [if_pos h2] at h
    cases hv : gnDec p.b with
    | no i c => rw [hv] at h; cases h
    | ok id' os' fs' =>
      rw [hv] at h
      simp only [TkR.ok.injEq] at h
      obtain ⟨rfl, rfl, rfl, rfl, rfl, rfl, rfl⟩ := h
      obtain ⟨-, -, -, h3, h4, -⟩ := gnDec_is hv
      exact ⟨by omega, h3, h4, by rw [if_neg h1, if_pos h2], .inr (.inl h2)⟩
  rw [if_neg h2] at h
  by_cases h3 : p.proto = 47
  · rw [if_pos h3] at h
    cases hv : gDec p.b with
    | no i c => rw [hv] at h; cases h
    | ok s k key q sq fs' =>
      rw [hv] at h
      simp only [TkR.ok.injEq] at h
      obtain ⟨rfl, rfl, rfl, rfl, rfl, rfl, rfl⟩ := h
      have h4 := gDec_is hv
      exact ⟨h4.2.1, h4.2.2.2.2.1, h4.2.2.2.2.2.1, by rw [if_neg h1, if_neg h2], .inr (.inr h3)⟩
  rw [if_neg h3] at h
  cases h
theorem TA.find_mem {A : TA} {kind : Int} {loc pee id : Nat} {keyed : Bool} {q : Int × TE} (h : A.find kind loc pee id keyed = .inl q) : q ∈ A.l ∧ isIt kind loc pee id keyed q.2.t = true := by
  unfold TA.find at h
  cases hf : A.l.find? (fun p => isIt kind loc pee id keyed p.2.t) with
  | none => rw [hf] at h; simp at h
  | some r =>
    rw [hf] at h
    simp only [Sum.inl.injEq] at h
    subst h
    exact ⟨List.mem_of_find?_eq_some hf, List.find?_some (p := fun p : Int × TE => isIt kind loc pee id keyed p.2.t) hf⟩
theorem TE.behind_t (e : TE) (os : List Opt) (seqed : Bool) (seq : Nat) : (e.behind os seqed seq).t = e.t := by
  unfold TE.behind
  split
  · rfl
  · split <;> rfl
theorem TE.behind_ok {e : TE} (h : e.ok) (os : List Opt) (seqed : Bool) {seq : Nat} (hs : seq < 4294967296) : (e.behind os seqed seq).ok := by
  unfold TE.behind
  split
  · exact h
  · split
    · refine ⟨h.t, h.next, fun y hy => ?_⟩
      simp only at hy
      unfold accNext at hy
      split at hy
      · cases hy; exact hs
      · exact h.last y hy
    · exact h
def DecapOk (S : Nat → Prop) (w : World) (tb : Nat) (R : TA × DecR) (e : Ending) (w' : World) : Prop :=
  ∃ S' : Nat → Prop, Tb S' w' tb R.1 ∧ Fr S w w' ∧ (∀ k, S' k → S k ∨ w.heap.size ≤ k) ∧ (∀ k, S k → S' k) ∧ match R.2 with
    | .ok n fs => ∃ g gc, e = .returned (.tuple #[.int .i64 n, .slice (some ⟨g, 0, none⟩) fs.length gc, .nilIface]) ∧ OB w' 5 (some ⟨g, 0, none⟩) fs.length gc fs ∧ w.heap.size ≤ g ∧ ¬ S' g
    | .no ls n => ∃ v, e = .returned (.tuple #[.int .i64 0, .slice none 0 0, v]) ∧ Err w' v ls n
theorem errV_no {n : Int} (h : n ≠ 0) : errV n = .iface 32 (.int .i64 n) := by unfold errV; rw [if_neg h]
theorem errV_ok : errV 0 = .nilIface := rfl

set_option maxRecDepth 100000 in
set_option maxHeartbeats 3200000 in
theorem tnDecap_any {S : Nat → Prop} {w : World} {tb : Nat} {A : TA} (h : Tb S w tb A) (hnx : A.next < 4611686018427387904) {p : Pk} {bo : Option Addr} {bn bc : Nat} (hp : PkRd w p bo bn bc) :
    Calls Try.prog 13 #[.pointer (some ⟨tb, 0, none⟩), .agg #[.int .u32 (p.src : Int), .int .u32 (p.dst : Int), .int .u8 (p.proto : Int), .int .u16 (p.sport : Int), .int .u16 (p.dport : Int), .slice bo bn bc]] w (DecapOk S w tb (A.decap p)) := by
  have HT := Lib.hid h
  obtain ⟨mb, L, h⟩ := h
  have H := Lib.hid h
  have f1 := (Fr.refl No w).alloc (.cells #[.int .u32 (p.src : Int), .int .u32 (p.dst : Int), .int .u8 (p.proto : Int), .int .u16 (p.sport : Int), .int .u16 (p.dport : Int), .slice bo bn bc] 41)
  have X1 := Lib.hid (heap_alloc_new w (.cells #[.int .u32 (p.src : Int), .int .u32 (p.dst : Int), .int .u8 (p.proto : Int), .int .u16 (p.sport : Int), .int .u16 (p.dport : Int), .slice bo bn bc] 41))
  have F1 := Lib.hid f1
  have HP := Lib.hid hp
  have HLT := Lib.hid h.lt
  have hbe := hp.b.2.le
  have hbf := hp.b.2.capLe
  obtain ⟨RR, hR⟩ : ∃ RR, A.decap p = RR := ⟨_, rfl⟩
  rw [hR]
  have HR := Lib.hid hR
  have HNX := Lib.hid hnx
  clear h f1 hp hR hnx
  go_enter Try.func13, Try.ntmps13
  go_upto_region 1 with fail
  generalize w.alloc (.cells #[.int .u32 (p.src : Int), .int .u32 (p.dst : Int), .int .u8 (p.proto : Int), .int .u16 (p.sport : Int), .int .u16 (p.dport : Int), .slice bo bn bc] 41) = w1 at *
  obtain ⟨x0, x1, x2, x3, x4, x5⟩ := cells6' X1.out
  have HP1 : Hid (PkRd w1 p bo bn bc) := Lib.hid ⟨HP.out.b.no F1.out, HP.out.le, HP.out.src, HP.out.dst⟩
  go_wp2_with fail
  refine (tnTake_any HP1.out).mono ?_
  cases ht : takeP p with
  | no ls n =>
    have hR : RR = (A, .no (tunnelS :: ls) n) := by rw [← HR.out]; unfold TA.decap; rw [ht]
    subst hR
    clear ht HR x0 x1 x2 x3 x4 x5
    rintro r w2 ⟨f2, k, b, v, rfl, he⟩
    obtain ⟨t, x, rfl⟩ := he.held
    have F2 := Lib.hid (F1.out.trans f2)
    have HE := Lib.hid (he.no ((Fr.refl No w2).alloc (.cells #[.int .i64 k, .int .u32 0, .bool b, .slice none 0 0, .bool false, .int .u32 0, .slice none 0 0] 83)))
    clear f2 he
    go_wp2_with (go_at_call 23; refine (wrap_err _ HE.out).mono ?_; rintro r w3 ⟨b3, rfl, he3, f3⟩; have HE3 := Lib.hid he3; have F3 := Lib.hid ((F2.out.alloc _).trans f3); clear he3 f3)
    go_ret3
    exact ⟨S, HT.out.no F3.out, F3.out.of_no, fun k hk => .inl hk, fun k hk => hk, _, rfl, HE3.out⟩
  | ok kind id keyed os seqed seq fs =>
    obtain ⟨hsq, -⟩ := takeP_ok ht
    have HTK := Lib.hid ht
    clear ht
    rintro r w2 ⟨f2, oo, on, oc, ad, g, gc, rfl, ro, ob, hg⟩
    have F2 := Lib.hid (F1.out.trans f2)
    have X2 := Lib.hid (f2.heap X1.out (fun h => h))
    have fa := (Fr.refl No w2).alloc (.cells #[.int .i64 kind, .int .u32 (id : Int), .bool keyed, .slice oo on oc, .bool seqed, .int .u32 (seq : Int), .slice (some ⟨g, 0, none⟩) fs.length gc] 83)
    have Y3 := Lib.hid (heap_alloc_new w2 (.cells #[.int .i64 kind, .int .u32 (id : Int), .bool keyed, .slice oo on oc, .bool seqed, .int .u32 (seq : Int), .slice (some ⟨g, 0, none⟩) fs.length gc] 83))
    have hz2 := F2.out.size
    have hgl : g < w2.heap.size := ob.2.lt ⟨g, 0, none⟩ rfl
    have RO3 := Lib.hid (ro.rs.no fa)
    have OB3 := Lib.hid (ob.no fa)
    have X3 := Lib.hid (fa.heap X2.out (fun h => h))
    have F3 := Lib.hid (F2.out.trans fa)
    have hg1 : w.heap.size ≤ g := Nat.le_trans F1.out.size hg
    have gg1 := ro.rs.le
    have gg2 := ro.rs.capLe
    clear f2 ro ob fa X2 x0 x1 x2 x3 x4 x5
    go_upto_region 4 with fail
    generalize hxe : w2.heap.size = y at *
    generalize w2.alloc (.cells #[.int .i64 kind, .int .u32 (id : Int), .bool keyed, .slice oo on oc, .bool seqed, .int .u32 (seq : Int), .slice (some ⟨g, 0, none⟩) fs.length gc] 83) = w3 at *
    obtain ⟨x0, x1, x2, x3, x4, x5⟩ := cells6' X3.out
    obtain ⟨y0, y1, y2, y3, y4, y5, y6⟩ := cells7 Y3.out
    go_wp2_with fail
    refine (tnFind_any (HT.out.no F3.out) kind p.dst p.src id keyed kind oo on oc seqed (seq : Int) _ _ _).mono ?_
    cases hf : A.find kind p.dst p.src id keyed with
    | inr n =>
      have hR : RR = (A, .no [tunnelS] n) := by rw [← HR.out]; unfold TA.decap; rw [HTK.out]; simp only; rw [hf]
      subst hR
      clear hf HR x0 x1 x2 x3 x4 x5 y0 y1 y2 y3 y4 y5 y6
      rintro r w4 ⟨f4, rfl⟩
      have F4 := Lib.hid (F3.out.trans f4)
      clear f4
      go_wp2_with (go_at_call 23; refine (wrap_err _ (Err.num n)).mono ?_; rintro r w5 ⟨b3, rfl, he3, f3⟩; have HE3 := Lib.hid he3; have F5 := Lib.hid (F4.out.trans f3); clear he3 f3)
      go_ret3
      exact ⟨S, HT.out.no F5.out, F5.out.of_no, fun k hk => .inl hk, fun k hk => hk, _, rfl, HE3.out⟩
    | inl q =>
      obtain ⟨n, e⟩ := q
      have HF := Lib.hid hf
      clear hf x0 x1 x2 x3 x4 x5 y0 y1 y2 y3 y4 y5 y6
      rintro r w4 ⟨f4, rfl⟩
      have F4 := Lib.hid (F3.out.trans f4)
      have FY := Lib.hid f4
      have hy3 := lt_of_heap Y3.out
      have Y4 := Lib.hid (f4.heap Y3.out (fun h => h))
      have RO4 := Lib.hid (RO3.out.no f4)
      have OB4 := Lib.hid (OB3.out.no f4)
      clear f4
      obtain ⟨hin, hit⟩ := TA.find_mem HF.out
      have hok := H.out.ok.ok _ hin
      have hkey := H.out.ok.key _ hin
      have hn : okK n := by
        have := HNX.out
        simp only at hkey
        unfold okK; omega
      obtain ⟨p', hp', hpe⟩ := List.mem_map.1 (show (n, e) ∈ L.map abT by rw [← H.out.ab]; exact hin)
      obtain ⟨n', b, e'⟩ := p'
      obtain rfl : n = n' := (Prod.mk.inj hpe).1.symm
      obtain rfl : e = e' := (Prod.mk.inj hpe).2.symm
      have LK := (H.out.no (F4.out.drew)).look_in hn hp'
      obtain ⟨m, hm⟩ := H.out.ent _ hp'
      simp only at hm
      have hbS : S b := hm.up
      have hbw : b < w.heap.size := HLT.out b hbS
      have htbS := H.out.tS
      have htw : tb < w.heap.size := HLT.out tb htbS
      have M4 := Lib.hid (hm.fr F4.out (fun _ _ h => h))
      have hbt : b ≠ tb := by
        intro e1
        have h1 := hm.box
        rw [e1, H.out.box] at h1; simp at h1
      have HIN := Lib.hid hp'
      have HOK := Lib.hid hok
      have hyw : w.heap.size ≤ y := by have := F2.out.size; omega
      have SF : Hid (∀ W, Fr (Is b) w4 W → W.cell? ⟨tb, 0, none⟩ = some (.map (some mb)) ∧ (W.cell? ⟨y, 0, none⟩ = some (.int .i64 kind) ∧ W.cell? ⟨y, 1, none⟩ = some (.int .u32 (id : Int)) ∧ W.cell? ⟨y, 2, none⟩ = some (.bool keyed) ∧ W.cell? ⟨y, 3, none⟩ = some (.slice oo on oc) ∧ W.cell? ⟨y, 4, none⟩ = some (.bool seqed) ∧ W.cell? ⟨y, 5, none⟩ = some (.int .u32 (seq : Int)) ∧ W.cell? ⟨y, 6, none⟩ = some (.slice (some ⟨g, 0, none⟩) fs.length gc))) := Lib.hid (fun W f => by
        refine ⟨?_, cells7 (f.heap Y4.out (fun h : y = b => by omega))⟩
        rw [cell_of_row W tb 0 _ _ _ (f.heap (H.out.no F4.out).box (fun h : tb = b => hbt h.symm))]; rfl)
      obtain ⟨k0, y0, y1, y2, y3, y4, y5, y6⟩ := SF.out _ (Fr.refl _ _)
      have hdec : A.decap p = (A.set n (e.behind os seqed seq), if e.accepts os seqed seq = 0 then .ok n fs else .no [tunnelS] (e.accepts os seqed seq)) := by
        unfold TA.decap; rw [HTK.out]; simp only; rw [HF.out]
      have HDEC := Lib.hid (HR.out.symm.trans hdec)
      clear hin hit hok hkey hn hp' hpe hm hdec
      by_cases hac : e.accepts os seqed seq = 0
      · have HAC := Lib.hid hac
        clear hac
        go_upto_region 6 with fail
        go_region_held3 (fun W => W.cell? ⟨tb, 0, none⟩ = some (.map (some mb)) ∧ (W.cell? ⟨y, 0, none⟩ = some (.int .i64 kind) ∧ W.cell? ⟨y, 1, none⟩ = some (.int .u32 (id : Int)) ∧ W.cell? ⟨y, 2, none⟩ = some (.bool keyed) ∧ W.cell? ⟨y, 3, none⟩ = some (.slice oo on oc) ∧ W.cell? ⟨y, 4, none⟩ = some (.bool seqed) ∧ W.cell? ⟨y, 5, none⟩ = some (.int .u32 (seq : Int)) ∧ W.cell? ⟨y, 6, none⟩ = some (.slice (some ⟨g, 0, none⟩) fs.length gc)))
          (first | exact SF.out _ (Fr.refl _ _).drew | exact SF.out _ F5.out)
          ((go_at_call 27; refine (tnAccepts_any (M4.out.fr ((Fr.refl No w4).drew) (fun _ _ h => h)) HOK.out (RO4.out.no (Fr.refl No w4).drew) seqed hsq kind (id : Int) keyed _ _ _).mono ?_; rintro r w5 ⟨hr, f5, m5, e5⟩; rw [HAC.out, errV_ok] at hr; subst hr; have F5 := Lib.hid ((Fr.refl (Is b) w4).drew.trans f5); have E5 := Lib.hid e5; clear f5 e5))
        clear k0 y0 y1 y2 y3 y4 y5 y6 LK SF
        have FT := Lib.hid (F4.out.of_no.trans F5.out)
        have T5 : Hid (Tb (fun k => S k ∨ (w4.drew.heap.size ≤ k ∧ k < w5.heap.size)) w5 tb (A.set n (e.behind os seqed seq))) := Lib.hid ⟨mb, _, H.out.upd HIN.out (TE.behind_t e os seqed seq) (TE.behind_ok HOK.out os seqed hsq) FT.out E5.out (fun k hk => .inl hk) (fun k hk => by rcases hk with h | h; exact Nat.lt_of_lt_of_le (HLT.out k h) FT.out.size; exact h.2)⟩
        have OB5 := Lib.hid (OB4.out.fr F5.out (fun a ha (h : a.block = b) => by cases ha; simp only at h; omega))
        have Y5 := Lib.hid (F5.out.heap Y4.out (fun h : y = b => by omega))
        obtain ⟨-, -, -, -, -, -, y6⟩ := cells7 Y5.out
        go_upto_region 9 with fail
        go_quiet (fail)
        go_wp2_with fail
        go_ret3
        rw [HDEC.out, if_pos HAC.out]
        refine ⟨_, T5.out.no ((Fr.refl No _).drewN _), ?_, ?_, fun k hk => .inl hk, g, gc, rfl, OB5.out.no ((Fr.refl No _).drewN _), hg1, ?_⟩
        · exact (FT.out.mono (fun k _ (hk : k = b) => by rw [hk]; exact hbS)).drewN _
        · rintro k (h | h)
          · exact .inl h
          · exact .inr (Nat.le_trans F4.out.size h.1)
        · rintro (h | h)
          · have := HLT.out g h; omega
          · have h1 := F4.out.size
            have h2 : w4.heap.size ≤ g := h.1
            have h3 := FY.out.size
            omega
      · have HNZ := Lib.hid hac
        clear hac
        go_upto_region 6 with fail
        go_region_held3 (fun W => W.cell? ⟨tb, 0, none⟩ = some (.map (some mb)) ∧ (W.cell? ⟨y, 0, none⟩ = some (.int .i64 kind) ∧ W.cell? ⟨y, 1, none⟩ = some (.int .u32 (id : Int)) ∧ W.cell? ⟨y, 2, none⟩ = some (.bool keyed) ∧ W.cell? ⟨y, 3, none⟩ = some (.slice oo on oc) ∧ W.cell? ⟨y, 4, none⟩ = some (.bool seqed) ∧ W.cell? ⟨y, 5, none⟩ = some (.int .u32 (seq : Int)) ∧ W.cell? ⟨y, 6, none⟩ = some (.slice (some ⟨g, 0, none⟩) fs.length gc)))
          (first | exact SF.out _ (Fr.refl _ _).drew | exact SF.out _ F5.out)
          ((go_at_call 27; refine (tnAccepts_any (M4.out.fr ((Fr.refl No w4).drew) (fun _ _ h => h)) HOK.out (RO4.out.no (Fr.refl No w4).drew) seqed hsq kind (id : Int) keyed _ _ _).mono ?_; rintro r w5 ⟨hr, f5, m5, e5⟩; rw [errV_no HNZ.out] at hr; subst hr; have F5 := Lib.hid ((Fr.refl (Is b) w4).drew.trans f5); have E5 := Lib.hid e5; clear f5 e5))
        clear k0 y0 y1 y2 y3 y4 y5 y6 LK SF
        have FT := Lib.hid (F4.out.of_no.trans F5.out)
        have T5 : Hid (Tb (fun k => S k ∨ (w4.drew.heap.size ≤ k ∧ k < w5.heap.size)) w5 tb (A.set n (e.behind os seqed seq))) := Lib.hid ⟨mb, _, H.out.upd HIN.out (TE.behind_t e os seqed seq) (TE.behind_ok HOK.out os seqed hsq) FT.out E5.out (fun k hk => .inl hk) (fun k hk => by rcases hk with h | h; exact Nat.lt_of_lt_of_le (HLT.out k h) FT.out.size; exact h.2)⟩
        go_wp2_with (go_at_call 23; refine (wrap_err _ (Err.num (e.accepts os seqed seq))).mono ?_; rintro r w6 ⟨b3, rfl, he3, f3⟩; have HE3 := Lib.hid he3; have F6 := Lib.hid f3; clear he3 f3)
        go_ret3
        rw [HDEC.out, if_neg HNZ.out]
        refine ⟨_, T5.out.no F6.out, ?_, ?_, fun k hk => .inl hk, _, rfl, HE3.out⟩
        · exact (FT.out.mono (fun k _ (hk : k = b) => by rw [hk]; exact hbS)).trans F6.out.of_no
        · rintro k (h | h)
          · exact .inl h
          · exact .inr (Nat.le_trans F4.out.size h.1)
end Go.Proofs.Ythoppkklooomgaa