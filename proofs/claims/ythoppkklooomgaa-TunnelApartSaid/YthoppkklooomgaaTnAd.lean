/- tunnel: Add. -/
import Derived.Test.YthoppkklooomgaaTnT
import Derived.Deep.DeepCutAuto
namespace Go.Proofs.Ythoppkklooomgaa
open Go.RowKit
set_option linter.unusedVariables false
set_option linter.unusedSimpArgs false
theorem eqE_same3 (x y : Tn) : eqE x.kind (x.loc : Int) (x.pee : Int) y.kind (y.loc : Int) (y.pee : Int) = same3 x y := by
  unfold eqE same3
  rw [decide_eq_decide]
  omega
theorem beqNat (a b : Nat) : ((a : Int) == (b : Int)) = decide (a = b) := by
  rw [Bool.eq_iff_iff, beq_iff_eq, decide_eq_true_eq]
  omega
def AddOk (S : Nat → Prop) (w : World) (tb : Nat) (R : TA × Int × Int) (e : Ending) (w' : World) : Prop :=
  e = .returned (.tuple #[.int .i64 R.2.1, .int .i64 R.2.2]) ∧ (R.2.2 ≠ 0 → Fr No w w') ∧ ∃ S' : Nat → Prop, Tb S' w' tb R.1 ∧ Fr S w w' ∧ (∀ k, S' k → S k ∨ w.heap.size ≤ k) ∧ (∀ k, S k → S' k)
theorem TbAt.nextLe {S : Nat → Prop} {w : World} {tb mb : Nat} {L : TM} {A : TA} (h : TbAt S w tb mb L A) : L.length ≤ 64 := by
  have := h.ok.len; rw [h.ab, List.length_map] at this; exact this
/-- An entry more. -/
theorem TA.Ok.add {A : TA} (h : A.Ok) {t : Tn} (ht : t.ok) (hr : RightT t) (hno : ∀ p ∈ A.l, same4 p.2.t t = false) (hl : A.l.length < 64) : TA.Ok ⟨A.l ++ [((A.next : Int), ⟨t, 0, none⟩)], A.next + 1⟩ := by
  have sym : ∀ x y : Tn, same4 x y = same4 y x := by
    intro x y
    unfold same4 same3
    rw [Bool.eq_iff_iff]
    simp only [Bool.and_eq_true, decide_eq_true_eq]
    constructor <;> (rintro ⟨⟨x1, x2, x3⟩, x4⟩; exact ⟨⟨x1.symm, x2.symm, x3.symm⟩, x4.symm⟩)
  have hin : ∀ p, p ∈ A.l ++ [((A.next : Int), (⟨t, 0, none⟩ : TE))] → p ∈ A.l ∨ p = ((A.next : Int), (⟨t, 0, none⟩ : TE)) := by
    intro p hp
    rcases List.mem_append.1 hp with h | h
    · exact .inl h
    · exact .inr (List.mem_singleton.1 h)
  refine ⟨?_, ?_, ?_, ?_, ?_, ?_⟩
  · simp only [List.map_append, List.map_cons, List.map_nil]
    rw [List.nodup_append]
    refine ⟨h.nd, by simp, ?_⟩
    intro a ha b hb
    rw [List.mem_singleton] at hb
    obtain ⟨p, hp, rfl⟩ := List.mem_map.1 ha
    have := (h.key p hp).2
    subst hb
    intro e
    rw [e] at this
    simp at this
  · intro p hp
    show 0 ≤ p.1 ∧ p.1 < ((A.next + 1 : Nat) : Int)
    rcases hin p hp with h1 | rfl
    · have := h.key p h1; omega
    · simp only; omega
  · intro p hp
    rcases hin p hp with h1 | rfl
    · exact h.ok p h1
    · exact ⟨ht, by simp, by simp⟩
  · intro p hp
    rcases hin p hp with h1 | rfl
    · exact h.right p h1
    · exact hr
  · intro p hp q hq hs
    rcases hin p hp with h1 | rfl
    · rcases hin q hq with h2 | rfl
      · exact h.one p h1 q h2 hs
      · rw [hno p h1] at hs; cases hs
    · rcases hin q hq with h2 | rfl
      · rw [sym, hno q h2] at hs; cases hs
      · rfl
  · simp; omega

/-- The table behind an entry more. -/
theorem TbAt.added {S : Nat → Prop} {w w' : World} {tb mb : Nat} {L : TM} {A : TA} (h : TbAt S w tb mb L A) {t : Tn} (ht : t.ok) (hr : RightT t) (hno : ∀ p ∈ A.l, same4 p.2.t t = false) (hl : A.l.length < 64)
    (hf : Fr (fun k => k = tb ∨ k = mb) w w') (hb : w'.heap[tb]? = some (.cells #[.map (some mb), .int .i64 ((A.next + 1 : Nat) : Int)] 69 (0, 0))) {b : Nat} (hm : Mp okK evK evB w' mb (mput (L.map prT) (A.next : Int) b)) {m : EnM}
    (he : EnAt' (Up w.heap.size) w' b ⟨t, 0, none⟩ m) :
    TbAt (fun k => S k ∨ (w.heap.size ≤ k ∧ k < w'.heap.size)) w' tb mb (L ++ [((A.next : Int), b, ⟨t, 0, none⟩)]) ⟨A.l ++ [((A.next : Int), ⟨t, 0, none⟩)], A.next + 1⟩ := by
  have hnone : mget (L.map prT) (A.next : Int) = none := by
    rw [mget_none]
    intro p hp e
    obtain ⟨p', hp', rfl⟩ := List.mem_map.1 hp
    have := (h.ok.key (abT p') (by rw [h.ab]; exact List.mem_map.2 ⟨p', hp', rfl⟩)).2
    have e' : p'.1 = (A.next : Int) := e
    simp only [abT] at this
    omega
  have hput : mput (L.map prT) (A.next : Int) b = (L ++ [((A.next : Int), b, (⟨t, 0, none⟩ : TE))]).map prT := by
    unfold mput
    rw [hnone, if_neg (by simp), List.map_append]
    rfl
  have hU : TbOnly w (fun k => k = tb ∨ k = mb) := by
    rintro k (rfl | rfl) cs t' f hc
    · rw [h.box] at hc; cases hc; exact .inr rfl
    · obtain ⟨es, c, hm, -⟩ := h.mp.ex
      rw [hm] at hc; cases hc
  have hne : ∀ p ∈ L, ¬ (p.2.1 = tb ∨ p.2.1 = mb) := by
    rintro p hp (e | e)
    · obtain ⟨m, hm⟩ := h.ent p hp
      have := hm.box; rw [e, h.box] at this; simp at this
    · obtain ⟨m, hm⟩ := h.ent p hp
      obtain ⟨es, c, hm2, -⟩ := h.mp.ex
      have := hm.box; rw [e, hm2] at this; cases this
  have hsz := hf.size
  have hbw := lt_of_heap he.box
  refine ⟨hb, by rw [← hput]; exact hm, by rw [h.ab, List.map_append]; rfl, ?_, ?_, h.ok.add ht hr hno hl, .inl h.tS, .inl h.mS, ?_⟩
  · intro p hp
    rcases List.mem_append.1 hp with hp | hp
    · obtain ⟨m, hm⟩ := h.ent p hp
      exact ⟨m, (hm.beside hf hU (hne p hp)).mono (fun k hk => .inl hk)⟩
    · rw [List.mem_singleton] at hp
      subst hp
      refine ⟨m, he.box, ⟨⟨he.ow.os.len, he.ow.os.adl, he.ow.os.own, fun a ha => ?_, fun i o p ho hp => ⟨(he.ow.os.ob i o p ho hp).1, fun a ha => ⟨?_, ((he.ow.os.ob i o p ho hp).2 a ha).2⟩⟩, he.ow.os.dis, he.ow.os.cls⟩, he.ow.ks, fun a ha => ?_⟩, he.lst, .inr ⟨he.up, hbw⟩, he.km⟩
      · exact .inr ⟨he.ow.os.row a ha, he.ow.os.own.lt a ha⟩
      · exact .inr ⟨((he.ow.os.ob i o p ho hp).2 a ha).1, (he.ow.os.ob i o p ho hp).1.2.lt a ha⟩
      · exact .inr ⟨he.ow.up a ha, he.ow.ks.2.lt a ha⟩
  · rw [List.map_append, List.nodup_append]
    refine ⟨h.dis, by simp, ?_⟩
    intro x hx y hy
    obtain ⟨p, hp, rfl⟩ := List.mem_map.1 hx
    simp only [List.map_cons, List.map_nil, List.mem_singleton] at hy
    have h1 := (h.ent p hp).lt
    have h2 : w.heap.size ≤ b := he.up
    intro e
    omega
  · rintro k (hk | hk)
    · exact Nat.lt_of_lt_of_le (h.lt k hk) hsz
    · exact hk.2

set_option maxRecDepth 100000 in
set_option maxHeartbeats 3200000 in
theorem tnAdd_any {S : Nat → Prop} {w : World} {tb : Nat} {A : TA} (h : Tb S w tb A) (hn : A.next < 4611686018427387904) {t : Tn} {oo : Option Addr} {on oc : Nat} {ko : Option Addr} {kn kc : Nat} (ht : ∀ W, Fr S w W → TnRd W t oo on oc ko kn kc) :
    Calls Try.prog 11 #[.pointer (some ⟨tb, 0, none⟩), .agg #[.int .i64 t.kind, .int .u32 (t.loc : Int), .int .u32 (t.pee : Int), .int .u32 (t.id : Int), .int .i64 t.seg, .slice oo on oc, .slice ko kn kc, .bool t.sum, .bool t.seq]] w
      (AddOk S w tb (A.add t)) := by
  obtain ⟨mb, L, h⟩ := h
  have H := Lib.hid h
  have HTA := Lib.hid ht
  replace ht := ht w (Fr.refl _ _)
  have HT := Lib.hid ht
  have HS := Lib.hid h.lt
  obtain ⟨R, hR⟩ : ∃ R, A.add t = R := ⟨_, rfl⟩
  rw [hR]
  have HR := Lib.hid hR
  have g1 := ht.os.le
  have g2 := ht.os.capLe
  have g3 := ht.ks.2.le
  have g4 := ht.ks.2.capLe
  have HK := Lib.hid ht.ok
  obtain ⟨nx, hnx⟩ : ∃ nx, nx = A.next := ⟨_, rfl⟩
  rw [← hnx] at hn
  have HNX := Lib.hid hnx
  clear h ht hR hnx
  have X0 := Lib.hid (heap_alloc_new w (.cells #[.int .i64 t.kind, .int .u32 (t.loc : Int), .int .u32 (t.pee : Int), .int .u32 (t.id : Int), .int .i64 t.seg, .slice oo on oc, .slice ko kn kc, .bool t.sum, .bool t.seq] 27))
  have F0 := Lib.hid ((Fr.refl No w).alloc (.cells #[.int .i64 t.kind, .int .u32 (t.loc : Int), .int .u32 (t.pee : Int), .int .u32 (t.id : Int), .int .i64 t.seg, .slice oo on oc, .slice ko kn kc, .bool t.sum, .bool t.seq] 27))
  have hz0 : (w.alloc (.cells #[.int .i64 t.kind, .int .u32 (t.loc : Int), .int .u32 (t.pee : Int), .int .u32 (t.id : Int), .int .i64 t.seg, .slice oo on oc, .slice ko kn kc, .bool t.sum, .bool t.seq] 27)).heap.size = w.heap.size + 1 := by simp
  go_enter Try.func11, Try.ntmps11
  go_wp2_with fail
  generalize w.alloc (.cells #[.int .i64 t.kind, .int .u32 (t.loc : Int), .int .u32 (t.pee : Int), .int .u32 (t.id : Int), .int .i64 t.seg, .slice oo on oc, .slice ko kn kc, .bool t.sum, .bool t.seq] 27) = w0 at *
  obtain ⟨rt, hrt⟩ : ∃ rt, rightT t = rt := ⟨_, rfl⟩
  have HRT := Lib.hid hrt
  refine (tnRight_any (HT.out.no F0.out)).mono ?_
  rw [hrt]
  clear hrt
  rintro e w1 ⟨rfl, f1⟩
  have X1 := Lib.hid (f1.heap X0.out (fun h => h))
  have F1 := Lib.hid (F0.out.trans f1)
  have hz1 : w.heap.size + 1 ≤ w1.heap.size := by have := f1.size; omega
  clear f1 X0 F0 hz0
  clear w0
  cases rt
  · have hR2 : R = (A, 0, 1) := by rw [← HR.out]; unfold TA.add; rw [if_pos HRT.out]
    have HR2 := Lib.hid hR2
    clear hR2
    go_wp2_with fail
    go_ret2
    rw [HR2.out]
    exact ⟨rfl, fun _ => F1.out, S, ⟨mb, L, H.out.no F1.out⟩, F1.out.of_no, fun k hk => .inl hk, fun k hk => hk⟩
  have H1 := Lib.hid (H.out.no F1.out)
  obtain ⟨k0, k1⟩ := H1.out.cells
  go_wp2_with (first
    | (at_range; refine wpList_range_mp rfl _ 67 rfl Try.underlying67 rfl H1.out.mp ?_; intro w2 hrg2 hg2 hs2))
  have F2 := Lib.hid (F1.out.then_no (Fr.of_gb (S := No) hg2 (fun k e => by cases e)))
  have R2 := Lib.hid hrg2
  have X2 := Lib.hid ((Fr.of_gb (S := No) hg2 (fun k e => by cases e)).heap X1.out (fun h => h))
  have hz2 : w1.heap.size + 1 = w2.heap.size := hs2.symm
  clear hrg2 hg2 hs2 X1 k0 k1
  go_wp2_with fail
  go_frame
  go_loopw [7] (fun s7 wr => ∃ (left : List (Int × Nat)), Rg okK evK evB wr mb w1.heap.size (L.map prT) left ∧ (∀ q ∈ left, q ∈ L.map prT) ∧ (∀ p ∈ L, prT p ∉ left → same4 p.2.2.t t = false) ∧ Fr No w wr ∧ w2.heap.size ≤ wr.heap.size ∧
      wr.heap[w.heap.size]? = some (.cells #[.int .i64 t.kind, .int .u32 (t.loc : Int), .int .u32 (t.pee : Int), .int .u32 (t.id : Int), .int .i64 t.seg, .slice oo on oc, .slice ko kn kc, .bool t.sum, .bool t.seq] 27 (0, 0))) (fun _ wr => wr.rangeLeft mb w1.heap.size)
  case atStart => exact ⟨L.map prT, R2.out, fun q h => h, fun p hp hq => absurd (List.mem_map.2 ⟨p, hp, rfl⟩) hq, F2.out, Nat.le_refl _, X2.out⟩
  case round =>
    clear X2 F2 R2 H1 F1
    obtain ⟨left, hrg, hsub, hdone, hf, hsz, hx⟩ := hrel
    have HG := Lib.hid hrg
    have HSB := Lib.hid hsub
    have HD := Lib.hid hdone
    have G1 := Lib.hid hf
    have X1 := Lib.hid hx
    clear hrg hsub hdone hf hx
    go_wp2_with (first
      | (at_next; refine wpList_next_mp rfl _ rfl keK rfl HG.out ?_ ?_))
    · intro hl0
      subst hl0
      have hno : ∀ p ∈ A.l, same4 p.2.t t = false := by
        intro p hp
        rw [H.out.ab] at hp
        obtain ⟨p', hp', rfl⟩ := List.mem_map.1 hp
        exact HD.out p' hp' (by simp)
      have hany : (A.l.any fun p => same4 p.2.t t) = false := by
        rw [Bool.eq_false_iff]
        intro hc
        obtain ⟨p, hp, hb⟩ := List.any_eq_true.1 hc
        rw [hno p hp] at hb; cases hb
      have HNO := Lib.hid hno
      have HANY := Lib.hid hany
      clear hno hany HG HSB HD
      have H3 := Lib.hid (H.out.no G1.out)
      have LN := H3.out.mp.len (P := Try.prog) Try.underlying67 3
      rw [List.length_map] at LN
      obtain ⟨k0, k1⟩ := H3.out.cells
      rw [← HNX.out] at k1
      have hll : A.l.length = L.length := by rw [H.out.ab, List.length_map]
      have HLL := Lib.hid hll
      have hl64 := H.out.nextLe
      clear hll
      by_cases h64 : 64 ≤ L.length
      · have hl : L.length = 64 := by omega
        have hR2 : R = (A, 0, 5) := by
          rw [← HR.out]; unfold TA.add
          rw [if_neg (by rw [HRT.out]; decide), if_neg (by rw [HANY.out]; decide), if_pos (by rw [HLL.out]; exact h64)]
        have HR2 := Lib.hid hR2
        clear hR2
        have hd : decide ((64 : Int) ≤ (L.length : Int)) = true := by simp; omega
        rw [hl] at LN
        clear hl h64 hl64 hd
        go_wp2_with fail
        go_ret2
        rw [HR2.out]
        exact ⟨rfl, fun _ => G1.out, S, ⟨mb, L, H3.out⟩, G1.out.of_no, fun k hk => .inl hk, fun k hk => hk⟩
      · have hR2 : R = (⟨A.l ++ [((A.next : Int), ⟨t, 0, none⟩)], A.next + 1⟩, (nx : Int), 0) := by
          rw [← HR.out]; unfold TA.add
          rw [if_neg (by rw [HRT.out]; decide), if_neg (by rw [HANY.out]; decide), if_neg (by rw [HLL.out]; exact h64), HNX.out]
        have HR2 := Lib.hid hR2
        have hRT : RightT t := of_decide_eq_true HRT.out
        have HRT' := Lib.hid hRT
        clear hR2 hRT
        obtain ⟨ln, hln⟩ : ∃ ln, ln = L.length := ⟨_, rfl⟩
        rw [← hln] at h64 hl64 LN
        have HLN := Lib.hid hln
        clear hln
        have z1 := free_row H3.out.box 1
        go_upto_region 12 with fail
        have X4 := Lib.hid (set_row (cs' := #[.map (some mb), .int .i64 ((nx : Int) + 1)]) H3.out.box 1 (.int .i64 ((nx : Int) + 1)) (by simp))
        have f4 := Fr.setCell (Fr.refl (Is tb) wr) (p := ⟨tb, 1, none⟩) (.inl rfl) (.int .i64 ((nx : Int) + 1))
        have htm : mb ≠ tb := by
          intro e
          obtain ⟨es, c, hm, -⟩ := H3.out.mp.ex
          have := H3.out.box; rw [← e, hm] at this; cases this
        have htb : tb < w.heap.size := HS.out tb H.out.tS
        have M4 := Lib.hid (H3.out.mp.fr f4 (fun h => htm h))
        have XX4 := Lib.hid (f4.heap X1.out (fun h : w.heap.size = tb => by omega))
        have hmb : mb < w.heap.size := HS.out mb H.out.mS
        have hss : S tb := H.out.tS
        have F4 := Lib.hid f4
        have hz4 : (wr.setCell ⟨tb, 1, none⟩ (.int .i64 ((nx : Int) + 1))).heap.size = wr.heap.size := by simp [World.setCell]
        have T4 : Hid (TnRd (wr.setCell ⟨tb, 1, none⟩ (.int .i64 ((nx : Int) + 1))) t oo on oc ko kn kc) := Lib.hid (HTA.out _ (G1.out.of_no.trans (f4.mono (fun k _ (hk : k = tb) => by rw [hk]; exact hss))))
        clear k0 k1 z1 f4
        generalize wr.setCell ⟨tb, 1, none⟩ (.int .i64 ((nx : Int) + 1)) = w4 at *
        have SF : Hid (∀ W, Fr (Is mb) w4 W → W.cell? ⟨tb, 0, none⟩ = some (.map (some mb)) ∧ (W.cell? ⟨w.heap.size, 0, none⟩ = some (.int .i64 t.kind) ∧ W.cell? ⟨w.heap.size, 1, none⟩ = some (.int .u32 (t.loc : Int)) ∧ W.cell? ⟨w.heap.size, 2, none⟩ = some (.int .u32 (t.pee : Int)) ∧ W.cell? ⟨w.heap.size, 3, none⟩ = some (.int .u32 (t.id : Int)) ∧ W.cell? ⟨w.heap.size, 4, none⟩ = some (.int .i64 t.seg) ∧ W.cell? ⟨w.heap.size, 5, none⟩ = some (.slice oo on oc) ∧ W.cell? ⟨w.heap.size, 6, none⟩ = some (.slice ko kn kc) ∧ W.cell? ⟨w.heap.size, 7, none⟩ = some (.bool t.sum) ∧ W.cell? ⟨w.heap.size, 8, none⟩ = some (.bool t.seq))) := Lib.hid (fun W f => ⟨by rw [cell_of_row W tb 0 _ _ _ (f.heap X4.out (fun h => htm h.symm))]; rfl, cells9 (f.heap XX4.out (fun h : w.heap.size = mb => by omega))⟩)
        obtain ⟨k0, c0, c1, c2, c3, c4, c5, c6, c7, c8⟩ := SF.out _ (Fr.refl _ _)
        go_region_held3 (fun W => W.cell? ⟨tb, 0, none⟩ = some (.map (some mb)) ∧ (W.cell? ⟨w.heap.size, 0, none⟩ = some (.int .i64 t.kind) ∧ W.cell? ⟨w.heap.size, 1, none⟩ = some (.int .u32 (t.loc : Int)) ∧ W.cell? ⟨w.heap.size, 2, none⟩ = some (.int .u32 (t.pee : Int)) ∧ W.cell? ⟨w.heap.size, 3, none⟩ = some (.int .u32 (t.id : Int)) ∧ W.cell? ⟨w.heap.size, 4, none⟩ = some (.int .i64 t.seg) ∧ W.cell? ⟨w.heap.size, 5, none⟩ = some (.slice oo on oc) ∧ W.cell? ⟨w.heap.size, 6, none⟩ = some (.slice ko kn kc) ∧ W.cell? ⟨w.heap.size, 7, none⟩ = some (.bool t.sum) ∧ W.cell? ⟨w.heap.size, 8, none⟩ = some (.bool t.seq)))
          (first | exact SF.out _ (Fr.refl _ _).drew | exact SF.out _ F5.out.of_no | exact SF.out _ F6.out.of_no | exact SF.out _ F7.out)
          ((go_at_call 22; refine (tnOwn_any (T4.out.no (Fr.refl No w4).drew) HRT'.out).mono ?_; rintro e w5 ⟨oo', oc', ad', ko', kc', rfl, ow, f5⟩; have OW := Lib.hid ow; have F5 := Lib.hid ((Fr.refl No w4).drew.then_no f5); have hz5 := f5.size; obtain ⟨w7, hput, m7, f7, s7⟩ := Mp.put (w := w5.alloc (.cells #[.int .i64 t.kind, .int .u32 (t.loc : Int), .int .u32 (t.pee : Int), .int .u32 (t.id : Int), .int .i64 t.seg, .slice oo' on oc', .slice ko' kn kc', .bool t.sum, .bool t.seq, .int .u32 0, .pointer none] 78)) (M4.out.no (F5.out.alloc _)) (P := Try.prog) keK Try.underlying67 (k := (nx : Int)) (by unfold okK; omega) w5.heap.size; simp only [evK, evB] at hput; have M7 := Lib.hid m7; have F6 := Lib.hid (F5.out.alloc (.cells #[.int .i64 t.kind, .int .u32 (t.loc : Int), .int .u32 (t.pee : Int), .int .u32 (t.id : Int), .int .i64 t.seg, .slice oo' on oc', .slice ko' kn kc', .bool t.sum, .bool t.seq, .int .u32 0, .pointer none] 78)); have F7 := Lib.hid (F6.out.of_no.trans f7); have FP := Lib.hid f7; clear ow f5 m7 f7))
        clear k0 c0 c1 c2 c3 c4 c5 c6 c7 c8 hput
        go_wp2_with fail
        go_ret2
        rw [HR2.out]
        have hbw : w5.heap.size < (w5.alloc (.cells #[.int .i64 t.kind, .int .u32 (t.loc : Int), .int .u32 (t.pee : Int), .int .u32 (t.id : Int), .int .i64 t.seg, .slice oo' on oc', .slice ko' kn kc', .bool t.sum, .bool t.seq, .int .u32 0, .pointer none] 78)).heap.size := by simp
        have hmb5 : mb < w5.heap.size := by have := F5.out.size; omega
        have ow7 : TnOw (Up wr.heap.size) w7 t oo' on oc' ad' ko' kn kc' := by
          have h1 := (OW.out.no ((Fr.refl No w5).alloc (.cells #[.int .i64 t.kind, .int .u32 (t.loc : Int), .int .u32 (t.pee : Int), .int .u32 (t.id : Int), .int .i64 t.seg, .slice oo' on oc', .slice ko' kn kc', .bool t.sum, .bool t.seq, .int .u32 0, .pointer none] 78)))
          have h2 : (w4.drew).heap.size = wr.heap.size := hz4
          rw [h2] at h1
          exact h1.fr FP.out (fun k (hk : wr.heap.size ≤ k) (e : k = mb) => by have := G1.out.size; omega)
        have key := H3.out.added (w' := w7) (t := t) HK.out HRT'.out HNO.out (by rw [HLL.out, ← HLN.out]; omega) (b := w5.heap.size) (m := ⟨oo', on, oc', ad', ko', kn, kc', none⟩)
          ((F4.out.mono (fun k _ h => Or.inl h)).trans ((F6.out.of_no).trans (FP.out.mono (fun k _ h => Or.inr h))))
          (by have h1 := FP.out.heap (F6.out.heap X4.out (fun h => h)) (fun h => htm h.symm); rw [h1, ← HNX.out]; rfl)
          (by rw [← HNX.out]; exact M7.out)
          ⟨FP.out.heap (heap_alloc_new w5 _) (fun h : w5.heap.size = mb => by omega), ow7, rfl, (by have := F5.out.size; show wr.heap.size ≤ w5.heap.size; omega), HT.out.km⟩
        refine ⟨rfl, fun h => absurd rfl h, _, ⟨mb, _, key⟩, ?_, ?_, fun k hk => .inl hk⟩
        · exact (G1.out.of_no.trans (F4.out.mono (fun k _ (hk : k = tb) => by rw [hk]; exact hss))).trans (F6.out.of_no.trans (FP.out.mono (fun k _ (hk : k = mb) => by rw [hk]; exact H.out.mS)))
        · rintro k (hk | hk)
          · exact .inl hk
          · exact .inr (by have := G1.out.size; omega)
    · intro k b w3 hq hrg3 hg3 hs3 hen
      obtain ⟨p, hpL, hpe⟩ := List.mem_map.1 (HSB.out _ hq)
      have hb : p.2.1 = b := (Prod.mk.inj hpe).2
      have hk : p.1 = k := (Prod.mk.inj hpe).1
      have f3 : Fr (Is w1.heap.size) wr w3 := Fr.of_gb hg3 (fun r e => by cases e; rfl)
      have G3 := Lib.hid (G1.out.then f3 (fun i hi (h : i = w1.heap.size) => by omega))
      obtain ⟨m, hm⟩ := H.out.ent p hpL
      have hbS : b < w.heap.size := by rw [← hb]; exact HS.out _ hm.up
      have X3 := Lib.hid (f3.heap X1.out (fun h : w.heap.size = w1.heap.size => by omega))
      have HM := Lib.hid hm
      have R3 := Lib.hid hrg3
      have HQ := Lib.hid hq
      have HB := Lib.hid hb
      have HKK := Lib.hid hk
      have HP := Lib.hid hpL
      have hlt : (mdel left k).length < left.length := by
        have := (perm_mdel HG.out.ndl hq).length_eq
        simp at this; omega
      have HLT := Lib.hid hlt
      have HRL := Lib.hid HG.out.left_eq
      have hsz3 : w2.heap.size ≤ w3.heap.size := by omega
      clear hq hrg3 hg3 hs3 hpL hpe hb hk f3 hm hlt X1 HG G1
      obtain ⟨e, hE⟩ : ∃ e, e = p.2.2 := ⟨_, rfl⟩
      rw [← hE, HB.out] at HM
      have HE := Lib.hid hE
      clear hE
      simp only [evK, evB] at hen ⊢
      have SF : Hid (∀ W, Fr No w3 W → (W.cell? ⟨b, 0, none⟩ = some (.int .i64 e.t.kind) ∧ W.cell? ⟨b, 1, none⟩ = some (.int .u32 (e.t.loc : Int)) ∧ W.cell? ⟨b, 2, none⟩ = some (.int .u32 (e.t.pee : Int)) ∧ W.cell? ⟨b, 3, none⟩ = some (.int .u32 (e.t.id : Int)) ∧ W.cell? ⟨b, 4, none⟩ = some (.int .i64 e.t.seg) ∧ W.cell? ⟨b, 5, none⟩ = some (.slice m.oo m.on m.oc) ∧ W.cell? ⟨b, 6, none⟩ = some (.slice m.ko m.kn m.kc) ∧ W.cell? ⟨b, 7, none⟩ = some (.bool e.t.sum) ∧ W.cell? ⟨b, 8, none⟩ = some (.bool e.t.seq)) ∧
          (W.cell? ⟨w.heap.size, 0, none⟩ = some (.int .i64 t.kind) ∧ W.cell? ⟨w.heap.size, 1, none⟩ = some (.int .u32 (t.loc : Int)) ∧ W.cell? ⟨w.heap.size, 2, none⟩ = some (.int .u32 (t.pee : Int)) ∧ W.cell? ⟨w.heap.size, 3, none⟩ = some (.int .u32 (t.id : Int)) ∧ W.cell? ⟨w.heap.size, 4, none⟩ = some (.int .i64 t.seg) ∧ W.cell? ⟨w.heap.size, 5, none⟩ = some (.slice oo on oc) ∧ W.cell? ⟨w.heap.size, 6, none⟩ = some (.slice ko kn kc) ∧ W.cell? ⟨w.heap.size, 7, none⟩ = some (.bool t.sum) ∧ W.cell? ⟨w.heap.size, 8, none⟩ = some (.bool t.seq))) := Lib.hid (fun W f => by
        obtain ⟨a0, a1, a2, a3, a4, a5, a6, a7, a8, -⟩ := cells11 ((G3.out.trans f).heap HM.out.box (fun h => h))
        exact ⟨⟨a0, a1, a2, a3, a4, a5, a6, a7, a8⟩, cells9 (f.heap X3.out (fun h => h))⟩)
      obtain ⟨⟨a0, a1, a2, a3, a4, a5, a6, a7, a8⟩, c0, c1, c2, c3, c4, c5, c6, c7, c8⟩ := SF.out _ (Fr.refl _ _)
      have EQ := eqEnds e.t.kind (e.t.loc : Int) (e.t.pee : Int) t.kind (t.loc : Int) (t.pee : Int)
      obtain ⟨s3, hs3⟩ : ∃ s3, same3 e.t t = s3 := ⟨_, rfl⟩
      have q1 := (eqE_same3 e.t t).trans hs3
      have HS3 := Lib.hid hs3
      simp only [q1] at EQ
      clear hs3 q1
      obtain ⟨s4, hs4⟩ : ∃ s4, same4 e.t t = s4 := ⟨_, rfl⟩
      have HS4 := Lib.hid hs4
      clear hs4
      go_upto_region 6 with fail
      go_cut [38] (fun s38 wc => s38 = .bool s4 ∧ Fr No w3 wc)
      case first =>
        cases s3
        · obtain rfl : s4 = false := by rw [← HS4.out]; unfold same4; rw [HS3.out]; rfl
          refine wp_region_held_drew (S := (fun W => (W.cell? ⟨b, 0, none⟩ = some (.int .i64 e.t.kind) ∧ W.cell? ⟨b, 1, none⟩ = some (.int .u32 (e.t.loc : Int)) ∧ W.cell? ⟨b, 2, none⟩ = some (.int .u32 (e.t.pee : Int)) ∧ W.cell? ⟨b, 3, none⟩ = some (.int .u32 (e.t.id : Int)) ∧ W.cell? ⟨b, 4, none⟩ = some (.int .i64 e.t.seg) ∧ W.cell? ⟨b, 5, none⟩ = some (.slice m.oo m.on m.oc) ∧ W.cell? ⟨b, 6, none⟩ = some (.slice m.ko m.kn m.kc) ∧ W.cell? ⟨b, 7, none⟩ = some (.bool e.t.sum) ∧ W.cell? ⟨b, 8, none⟩ = some (.bool e.t.seq)) ∧ (W.cell? ⟨w.heap.size, 0, none⟩ = some (.int .i64 t.kind) ∧ W.cell? ⟨w.heap.size, 1, none⟩ = some (.int .u32 (t.loc : Int)) ∧ W.cell? ⟨w.heap.size, 2, none⟩ = some (.int .u32 (t.pee : Int)) ∧ W.cell? ⟨w.heap.size, 3, none⟩ = some (.int .u32 (t.id : Int)) ∧ W.cell? ⟨w.heap.size, 4, none⟩ = some (.int .i64 t.seg) ∧ W.cell? ⟨w.heap.size, 5, none⟩ = some (.slice oo on oc) ∧ W.cell? ⟨w.heap.size, 6, none⟩ = some (.slice ko kn kc) ∧ W.cell? ⟨w.heap.size, 7, none⟩ = some (.bool t.sum) ∧ W.cell? ⟨w.heap.size, 8, none⟩ = some (.bool t.seq)))) (by kernel_rfl) ?_ (fun hHeld => ?_)
          · ((try dsimp only); exact SF.out _ (Fr.refl _ _).drew)
          · skip
            change wpAnyH _ _ _ _ _ 18 #[false, false, false, false, false, false, false, false, false, false, false, false, false, false, false, false, false, false] _ _
            apply wpAnyH_take (i := 0)
            · (simp only [List.getElem?_toArray, List.getElem?_cons_succ, List.getElem?_cons_zero]; rfl)
            · kernel_rfl
            · kernel_rfl
            · kernel_rfl
            · exact fun _ _ _ h => h
            · (refine Or.inl ⟨by kernel_rfl, ?_⟩; intro w hSw; (try dsimp only at hSw); go_simp; try with_reducible rfl)
            · assumption
            simp only [Act.put, List.setIfInBounds_toArray, List.set_cons_zero, List.set_cons_succ]
            apply wpAnyH_take (i := 1)
            · (simp only [List.getElem?_toArray, List.getElem?_cons_succ, List.getElem?_cons_zero]; rfl)
            · kernel_rfl
            · kernel_rfl
            · kernel_rfl
            · exact fun _ _ _ h => h
            · (refine Or.inl ⟨by kernel_rfl, ?_⟩; intro w hSw; (try dsimp only at hSw); go_simp; try with_reducible rfl)
            · assumption
            simp only [Act.put, List.setIfInBounds_toArray, List.set_cons_zero, List.set_cons_succ]
            apply wpAnyH_take (i := 2)
            · (simp only [List.getElem?_toArray, List.getElem?_cons_succ, List.getElem?_cons_zero]; rfl)
            · kernel_rfl
            · kernel_rfl
            · kernel_rfl
            · exact fun _ _ _ h => h
            · (refine Or.inl ⟨by kernel_rfl, ?_⟩; intro w hSw; (try dsimp only at hSw); go_simp; try with_reducible rfl)
            · assumption
            simp only [Act.put, List.setIfInBounds_toArray, List.set_cons_zero, List.set_cons_succ]
            apply wpAnyH_take (i := 3)
            · (simp only [List.getElem?_toArray, List.getElem?_cons_succ, List.getElem?_cons_zero]; rfl)
            · kernel_rfl
            · kernel_rfl
            · kernel_rfl
            · exact fun _ _ _ h => h
            · (refine Or.inl ⟨by kernel_rfl, ?_⟩; intro w hSw; (try dsimp only at hSw); go_simp; try with_reducible rfl)
            · assumption
            simp only [Act.put, List.setIfInBounds_toArray, List.set_cons_zero, List.set_cons_succ]
            apply wpAnyH_take (i := 5)
            · (simp only [List.getElem?_toArray, List.getElem?_cons_succ, List.getElem?_cons_zero]; rfl)
            · kernel_rfl
            · kernel_rfl
            · kernel_rfl
            · exact fun _ _ _ h => h
            · (refine Or.inl ⟨by kernel_rfl, ?_⟩; intro w hSw; (try dsimp only at hSw); go_simp; try with_reducible rfl)
            · assumption
            simp only [Act.put, List.setIfInBounds_toArray, List.set_cons_zero, List.set_cons_succ]
            refine wpAnyH_ready (rs := [4]) (by kernel_rfl) (by simp) (AllReadyH.cons rfl (fun K hK => ?_) AllReadyH.nil)
            · skip
              change Oper.wp _ _ _ _ _ _
              go_simp
              ((with_reducible refine (tnEnds_any _ _ _ _ _ _ _ _ _ _ _ _ _ _).mono ?_); rintro r wq1 ⟨rfl, fq⟩; have FQ1 := Lib.hid ((Fr.refl No w3).drew.trans fq); clear fq)
              (try go_wp2_with fail)
              refine hK.out _ _ ?_ (fun hHeld => ?_)
              · ((try dsimp only); first | exact SF.out _ FQ2.out | exact SF.out _ FQ1.out)
              · skip
                clear hK K
                (try simp only [Act.put, List.setIfInBounds_toArray, List.set_cons_zero, List.set_cons_succ])
                refine wpAnyH_ready (rs := [6]) (by kernel_rfl) (by simp) (AllReadyH.cons rfl (fun K hK => ?_) AllReadyH.nil)
                · skip
                  change Oper.wp _ _ _ _ _ _
                  go_simp
                  ((with_reducible refine (tnEnds_any _ _ _ _ _ _ _ _ _ _ _ _ _ _).mono ?_); rintro r wq2 ⟨rfl, fq⟩; have FQ2 := Lib.hid (FQ1.out.trans fq); clear fq)
                  (try go_wp2_with fail)
                  refine hK.out _ _ ?_ (fun hHeld => ?_)
                  · ((try dsimp only); first | exact SF.out _ FQ2.out | exact SF.out _ FQ1.out)
                  · skip
                    clear hK K
                    (try simp only [Act.put, List.setIfInBounds_toArray, List.set_cons_zero, List.set_cons_succ])
                    apply wpAnyH_take (i := 7)
                    · (simp only [List.getElem?_toArray, List.getElem?_cons_succ, List.getElem?_cons_zero]; rfl)
                    · kernel_rfl
                    · kernel_rfl
                    · kernel_rfl
                    · exact fun _ _ _ h => h
                    · (refine Or.inl ⟨by kernel_rfl, ?_⟩; intro w hSw; (try dsimp only at hSw); go_simp; try with_reducible rfl)
                    · assumption
                    simp only [Act.put, List.setIfInBounds_toArray, List.set_cons_zero, List.set_cons_succ]
                    apply wpAnyH_take (i := 8)
                    · (simp only [List.getElem?_toArray, List.getElem?_cons_succ, List.getElem?_cons_zero]; rfl)
                    · kernel_rfl
                    · kernel_rfl
                    · kernel_rfl
                    · exact fun _ _ _ h => h
                    · (refine Or.inl ⟨by kernel_rfl, ?_⟩; intro w hSw; (try dsimp only at hSw); go_simp; try with_reducible rfl)
                    · assumption
                    simp only [Act.put, List.setIfInBounds_toArray, List.set_cons_zero, List.set_cons_succ]
                    apply wpAnyH_take (i := 9)
                    · (simp only [List.getElem?_toArray, List.getElem?_cons_succ, List.getElem?_cons_zero]; rfl)
                    · kernel_rfl
                    · kernel_rfl
                    · kernel_rfl
                    · exact fun _ _ _ h => h
                    · (refine Or.inr ⟨by kernel_rfl, ?_⟩; rfl)
                    · assumption
                    simp only [Act.put, List.setIfInBounds_toArray, List.set_cons_zero, List.set_cons_succ]
                    apply wpAnyH_take (i := 10)
                    · (simp only [List.getElem?_toArray, List.getElem?_cons_succ, List.getElem?_cons_zero]; rfl)
                    · kernel_rfl
                    · kernel_rfl
                    · kernel_rfl
                    · exact fun _ _ _ h => h
                    · (refine Or.inr ⟨by kernel_rfl, ?_⟩; rfl)
                    · assumption
                    simp only [Act.put, List.setIfInBounds_toArray, List.set_cons_zero, List.set_cons_succ]
                    apply wpAnyH_take (i := 11)
                    · (simp only [List.getElem?_toArray, List.getElem?_cons_succ, List.getElem?_cons_zero]; rfl)
                    · kernel_rfl
                    · kernel_rfl
                    · kernel_rfl
                    · exact fun _ _ _ h => h
                    · (refine Or.inr ⟨by kernel_rfl, ?_⟩; rfl)
                    · assumption
                    simp only [Act.put, List.setIfInBounds_toArray, List.set_cons_zero, List.set_cons_succ]
                    apply wpAnyH_take (i := 12)
                    · (simp only [List.getElem?_toArray, List.getElem?_cons_succ, List.getElem?_cons_zero]; rfl)
                    · kernel_rfl
                    · kernel_rfl
                    · kernel_rfl
                    · exact fun _ _ _ h => h
                    · (refine Or.inr ⟨by kernel_rfl, ?_⟩; rfl)
                    · assumption
                    simp only [Act.put, List.setIfInBounds_toArray, List.set_cons_zero, List.set_cons_succ]
                    apply wpAnyH_take (i := 13)
                    · (simp only [List.getElem?_toArray, List.getElem?_cons_succ, List.getElem?_cons_zero]; rfl)
                    · kernel_rfl
                    · kernel_rfl
                    · kernel_rfl
                    · exact fun _ _ _ h => h
                    · (refine Or.inr ⟨by kernel_rfl, ?_⟩; rfl)
                    · assumption
                    simp only [Act.put, List.setIfInBounds_toArray, List.set_cons_zero, List.set_cons_succ]
                    apply wpAnyH_take (i := 14)
                    · (simp only [List.getElem?_toArray, List.getElem?_cons_succ, List.getElem?_cons_zero]; rfl)
                    · kernel_rfl
                    · kernel_rfl
                    · kernel_rfl
                    · exact fun _ _ _ h => h
                    · (refine Or.inr ⟨by kernel_rfl, ?_⟩; rfl)
                    · assumption
                    simp only [Act.put, List.setIfInBounds_toArray, List.set_cons_zero, List.set_cons_succ]
                    apply wpAnyH_take (i := 15)
                    · (simp only [List.getElem?_toArray, List.getElem?_cons_succ, List.getElem?_cons_zero]; rfl)
                    · kernel_rfl
                    · kernel_rfl
                    · kernel_rfl
                    · exact fun _ _ _ h => h
                    · (refine Or.inr ⟨by kernel_rfl, ?_⟩; rfl)
                    · assumption
                    simp only [Act.put, List.setIfInBounds_toArray, List.set_cons_zero, List.set_cons_succ]
                    apply wpAnyH_take (i := 16)
                    · (simp only [List.getElem?_toArray, List.getElem?_cons_succ, List.getElem?_cons_zero]; rfl)
                    · kernel_rfl
                    · kernel_rfl
                    · kernel_rfl
                    · exact fun _ _ _ h => h
                    · (refine Or.inr ⟨by kernel_rfl, ?_⟩; rfl)
                    · assumption
                    simp only [Act.put, List.setIfInBounds_toArray, List.set_cons_zero, List.set_cons_succ]
                    apply wpAnyH_take (i := 17)
                    · (simp only [List.getElem?_toArray, List.getElem?_cons_succ, List.getElem?_cons_zero]; rfl)
                    · kernel_rfl
                    · kernel_rfl
                    · kernel_rfl
                    · exact fun _ _ _ h => h
                    · (refine Or.inl ⟨by kernel_rfl, ?_⟩; intro w hSw; (try dsimp only at hSw); go_simp; try with_reducible rfl)
                    · assumption
                    simp only [Act.put, List.setIfInBounds_toArray, List.set_cons_zero, List.set_cons_succ]
                    refine wpAnyH_done (by kernel_rfl) ?_ _
                    try go_wp2_with fail
                    go_meet
                    exact ⟨rfl, FQ2.out⟩
        · have hid : s4 = decide (e.t.id = t.id) := by rw [← HS4.out]; unfold same4; rw [HS3.out]; rfl
          have HID := Lib.hid hid
          clear hid
          refine wp_region_held_drew (S := (fun W => (W.cell? ⟨b, 0, none⟩ = some (.int .i64 e.t.kind) ∧ W.cell? ⟨b, 1, none⟩ = some (.int .u32 (e.t.loc : Int)) ∧ W.cell? ⟨b, 2, none⟩ = some (.int .u32 (e.t.pee : Int)) ∧ W.cell? ⟨b, 3, none⟩ = some (.int .u32 (e.t.id : Int)) ∧ W.cell? ⟨b, 4, none⟩ = some (.int .i64 e.t.seg) ∧ W.cell? ⟨b, 5, none⟩ = some (.slice m.oo m.on m.oc) ∧ W.cell? ⟨b, 6, none⟩ = some (.slice m.ko m.kn m.kc) ∧ W.cell? ⟨b, 7, none⟩ = some (.bool e.t.sum) ∧ W.cell? ⟨b, 8, none⟩ = some (.bool e.t.seq)) ∧ (W.cell? ⟨w.heap.size, 0, none⟩ = some (.int .i64 t.kind) ∧ W.cell? ⟨w.heap.size, 1, none⟩ = some (.int .u32 (t.loc : Int)) ∧ W.cell? ⟨w.heap.size, 2, none⟩ = some (.int .u32 (t.pee : Int)) ∧ W.cell? ⟨w.heap.size, 3, none⟩ = some (.int .u32 (t.id : Int)) ∧ W.cell? ⟨w.heap.size, 4, none⟩ = some (.int .i64 t.seg) ∧ W.cell? ⟨w.heap.size, 5, none⟩ = some (.slice oo on oc) ∧ W.cell? ⟨w.heap.size, 6, none⟩ = some (.slice ko kn kc) ∧ W.cell? ⟨w.heap.size, 7, none⟩ = some (.bool t.sum) ∧ W.cell? ⟨w.heap.size, 8, none⟩ = some (.bool t.seq)))) (by kernel_rfl) ?_ (fun hHeld => ?_)
          · ((try dsimp only); exact SF.out _ (Fr.refl _ _).drew)
          · skip
            change wpAnyH _ _ _ _ _ 18 #[false, false, false, false, false, false, false, false, false, false, false, false, false, false, false, false, false, false] _ _
            apply wpAnyH_take (i := 0)
            · (simp only [List.getElem?_toArray, List.getElem?_cons_succ, List.getElem?_cons_zero]; rfl)
            · kernel_rfl
            · kernel_rfl
            · kernel_rfl
            · exact fun _ _ _ h => h
            · (refine Or.inl ⟨by kernel_rfl, ?_⟩; intro w hSw; (try dsimp only at hSw); go_simp; try with_reducible rfl)
            · assumption
            simp only [Act.put, List.setIfInBounds_toArray, List.set_cons_zero, List.set_cons_succ]
            apply wpAnyH_take (i := 1)
            · (simp only [List.getElem?_toArray, List.getElem?_cons_succ, List.getElem?_cons_zero]; rfl)
            · kernel_rfl
            · kernel_rfl
            · kernel_rfl
            · exact fun _ _ _ h => h
            · (refine Or.inl ⟨by kernel_rfl, ?_⟩; intro w hSw; (try dsimp only at hSw); go_simp; try with_reducible rfl)
            · assumption
            simp only [Act.put, List.setIfInBounds_toArray, List.set_cons_zero, List.set_cons_succ]
            apply wpAnyH_take (i := 2)
            · (simp only [List.getElem?_toArray, List.getElem?_cons_succ, List.getElem?_cons_zero]; rfl)
            · kernel_rfl
            · kernel_rfl
            · kernel_rfl
            · exact fun _ _ _ h => h
            · (refine Or.inl ⟨by kernel_rfl, ?_⟩; intro w hSw; (try dsimp only at hSw); go_simp; try with_reducible rfl)
            · assumption
            simp only [Act.put, List.setIfInBounds_toArray, List.set_cons_zero, List.set_cons_succ]
            apply wpAnyH_take (i := 3)
            · (simp only [List.getElem?_toArray, List.getElem?_cons_succ, List.getElem?_cons_zero]; rfl)
            · kernel_rfl
            · kernel_rfl
            · kernel_rfl
            · exact fun _ _ _ h => h
            · (refine Or.inl ⟨by kernel_rfl, ?_⟩; intro w hSw; (try dsimp only at hSw); go_simp; try with_reducible rfl)
            · assumption
            simp only [Act.put, List.setIfInBounds_toArray, List.set_cons_zero, List.set_cons_succ]
            apply wpAnyH_take (i := 5)
            · (simp only [List.getElem?_toArray, List.getElem?_cons_succ, List.getElem?_cons_zero]; rfl)
            · kernel_rfl
            · kernel_rfl
            · kernel_rfl
            · exact fun _ _ _ h => h
            · (refine Or.inl ⟨by kernel_rfl, ?_⟩; intro w hSw; (try dsimp only at hSw); go_simp; try with_reducible rfl)
            · assumption
            simp only [Act.put, List.setIfInBounds_toArray, List.set_cons_zero, List.set_cons_succ]
            refine wpAnyH_ready (rs := [4]) (by kernel_rfl) (by simp) (AllReadyH.cons rfl (fun K hK => ?_) AllReadyH.nil)
            · skip
              change Oper.wp _ _ _ _ _ _
              go_simp
              ((with_reducible refine (tnEnds_any _ _ _ _ _ _ _ _ _ _ _ _ _ _).mono ?_); rintro r wq1 ⟨rfl, fq⟩; have FQ1 := Lib.hid ((Fr.refl No w3).drew.trans fq); clear fq)
              (try go_wp2_with fail)
              refine hK.out _ _ ?_ (fun hHeld => ?_)
              · ((try dsimp only); first | exact SF.out _ FQ2.out | exact SF.out _ FQ1.out)
              · skip
                clear hK K
                (try simp only [Act.put, List.setIfInBounds_toArray, List.set_cons_zero, List.set_cons_succ])
                refine wpAnyH_ready (rs := [6]) (by kernel_rfl) (by simp) (AllReadyH.cons rfl (fun K hK => ?_) AllReadyH.nil)
                · skip
                  change Oper.wp _ _ _ _ _ _
                  go_simp
                  ((with_reducible refine (tnEnds_any _ _ _ _ _ _ _ _ _ _ _ _ _ _).mono ?_); rintro r wq2 ⟨rfl, fq⟩; have FQ2 := Lib.hid (FQ1.out.trans fq); clear fq)
                  (try go_wp2_with fail)
                  refine hK.out _ _ ?_ (fun hHeld => ?_)
                  · ((try dsimp only); first | exact SF.out _ FQ2.out | exact SF.out _ FQ1.out)
                  · skip
                    clear hK K
                    (try simp only [Act.put, List.setIfInBounds_toArray, List.set_cons_zero, List.set_cons_succ])
                    apply wpAnyH_take (i := 7)
                    · (simp only [List.getElem?_toArray, List.getElem?_cons_succ, List.getElem?_cons_zero]; rfl)
                    · kernel_rfl
                    · kernel_rfl
                    · kernel_rfl
                    · exact fun _ _ _ h => h
                    · (refine Or.inl ⟨by kernel_rfl, ?_⟩; intro w hSw; (try dsimp only at hSw); go_simp; try with_reducible rfl)
                    · assumption
                    simp only [Act.put, List.setIfInBounds_toArray, List.set_cons_zero, List.set_cons_succ]
                    apply wpAnyH_take (i := 8)
                    · (simp only [List.getElem?_toArray, List.getElem?_cons_succ, List.getElem?_cons_zero]; rfl)
                    · kernel_rfl
                    · kernel_rfl
                    · kernel_rfl
                    · exact fun _ _ _ h => h
                    · (refine Or.inl ⟨by kernel_rfl, ?_⟩; intro w hSw; (try dsimp only at hSw); go_simp; try with_reducible rfl)
                    · assumption
                    simp only [Act.put, List.setIfInBounds_toArray, List.set_cons_zero, List.set_cons_succ]
                    apply wpAnyH_take (i := 9)
                    · (simp only [List.getElem?_toArray, List.getElem?_cons_succ, List.getElem?_cons_zero]; rfl)
                    · kernel_rfl
                    · kernel_rfl
                    · kernel_rfl
                    · exact fun _ _ _ h => h
                    · (refine Or.inl ⟨by kernel_rfl, ?_⟩; intro w hSw; (try dsimp only at hSw); go_simp; try with_reducible rfl)
                    · assumption
                    simp only [Act.put, List.setIfInBounds_toArray, List.set_cons_zero, List.set_cons_succ]
                    apply wpAnyH_take (i := 10)
                    · (simp only [List.getElem?_toArray, List.getElem?_cons_succ, List.getElem?_cons_zero]; rfl)
                    · kernel_rfl
                    · kernel_rfl
                    · kernel_rfl
                    · exact fun _ _ _ h => h
                    · (refine Or.inl ⟨by kernel_rfl, ?_⟩; intro w hSw; (try dsimp only at hSw); go_simp; try with_reducible rfl)
                    · assumption
                    simp only [Act.put, List.setIfInBounds_toArray, List.set_cons_zero, List.set_cons_succ]
                    apply wpAnyH_take (i := 11)
                    · (simp only [List.getElem?_toArray, List.getElem?_cons_succ, List.getElem?_cons_zero]; rfl)
                    · kernel_rfl
                    · kernel_rfl
                    · kernel_rfl
                    · exact fun _ _ _ h => h
                    · (refine Or.inl ⟨by kernel_rfl, ?_⟩; intro w hSw; (try dsimp only at hSw); go_simp; try with_reducible rfl)
                    · assumption
                    simp only [Act.put, List.setIfInBounds_toArray, List.set_cons_zero, List.set_cons_succ]
                    apply wpAnyH_take (i := 12)
                    · (simp only [List.getElem?_toArray, List.getElem?_cons_succ, List.getElem?_cons_zero]; rfl)
                    · kernel_rfl
                    · kernel_rfl
                    · kernel_rfl
                    · exact fun _ _ _ h => h
                    · (refine Or.inl ⟨by kernel_rfl, ?_⟩; intro w hSw; (try dsimp only at hSw); go_simp; try with_reducible rfl)
                    · assumption
                    simp only [Act.put, List.setIfInBounds_toArray, List.set_cons_zero, List.set_cons_succ]
                    apply wpAnyH_take (i := 13)
                    · (simp only [List.getElem?_toArray, List.getElem?_cons_succ, List.getElem?_cons_zero]; rfl)
                    · kernel_rfl
                    · kernel_rfl
                    · kernel_rfl
                    · exact fun _ _ _ h => h
                    · (refine Or.inl ⟨by kernel_rfl, ?_⟩; intro w hSw; (try dsimp only at hSw); go_simp; try with_reducible rfl)
                    · assumption
                    simp only [Act.put, List.setIfInBounds_toArray, List.set_cons_zero, List.set_cons_succ]
                    apply wpAnyH_take (i := 14)
                    · (simp only [List.getElem?_toArray, List.getElem?_cons_succ, List.getElem?_cons_zero]; rfl)
                    · kernel_rfl
                    · kernel_rfl
                    · kernel_rfl
                    · exact fun _ _ _ h => h
                    · (refine Or.inl ⟨by kernel_rfl, ?_⟩; intro w hSw; (try dsimp only at hSw); go_simp; try with_reducible rfl)
                    · assumption
                    simp only [Act.put, List.setIfInBounds_toArray, List.set_cons_zero, List.set_cons_succ]
                    apply wpAnyH_take (i := 15)
                    · (simp only [List.getElem?_toArray, List.getElem?_cons_succ, List.getElem?_cons_zero]; rfl)
                    · kernel_rfl
                    · kernel_rfl
                    · kernel_rfl
                    · exact fun _ _ _ h => h
                    · (refine Or.inl ⟨by kernel_rfl, ?_⟩; intro w hSw; (try dsimp only at hSw); go_simp; try with_reducible rfl)
                    · assumption
                    simp only [Act.put, List.setIfInBounds_toArray, List.set_cons_zero, List.set_cons_succ]
                    apply wpAnyH_take (i := 16)
                    · (simp only [List.getElem?_toArray, List.getElem?_cons_succ, List.getElem?_cons_zero]; rfl)
                    · kernel_rfl
                    · kernel_rfl
                    · kernel_rfl
                    · exact fun _ _ _ h => h
                    · (refine Or.inl ⟨by kernel_rfl, ?_⟩; intro w hSw; (try dsimp only at hSw); go_simp; try with_reducible rfl)
                    · assumption
                    simp only [Act.put, List.setIfInBounds_toArray, List.set_cons_zero, List.set_cons_succ]
                    apply wpAnyH_take (i := 17)
                    · (simp only [List.getElem?_toArray, List.getElem?_cons_succ, List.getElem?_cons_zero]; rfl)
                    · kernel_rfl
                    · kernel_rfl
                    · kernel_rfl
                    · exact fun _ _ _ h => h
                    · (refine Or.inl ⟨by kernel_rfl, ?_⟩; intro w hSw; (try dsimp only at hSw); go_simp; try with_reducible rfl)
                    · assumption
                    simp only [Act.put, List.setIfInBounds_toArray, List.set_cons_zero, List.set_cons_succ]
                    refine wpAnyH_done (by kernel_rfl) ?_ _
                    try go_wp2_with fail
                    go_meet
                    exact ⟨by rw [HID.out, beqNat], FQ2.out⟩
      case rest =>
        obtain ⟨rfl, fc⟩ := hcut
        have GC := Lib.hid (G3.out.trans fc)
        have RC := Lib.hid (R3.out.fr fc (fun h => h) (fun h => h))
        have XC := Lib.hid (fc.heap X3.out (fun h => h))
        have hszc : w2.heap.size ≤ wc.heap.size := by have := fc.size; omega
        clear fc SF a0 a1 a2 a3 a4 a5 a6 a7 a8 c0 c1 c2 c3 c4 c5 c6 c7 c8 EQ hen R3 X3 G3
        cases s4
        · go_wp2_with fail
          go_roundw
          case rel =>
            refine ⟨mdel left k, RC.out, fun q hq => HSB.out q (mem_mdel.1 hq).1, fun p' hp' hq => ?_, GC.out, hszc, XC.out⟩
            by_cases hin : prT p' ∈ left
            · have hk' : p'.1 = k := by
                by_cases h : p'.1 = k
                · exact h
                · exact absurd (mem_mdel.2 ⟨hin, h⟩) hq
              have h1 := mget_of_mem H.out.nd (k := p.1) (v := p.2) HP.out
              have h2 := mget_of_mem H.out.nd (k := p.1) (v := p'.2) (by rw [HKK.out, ← hk']; exact hp')
              have h3 : p'.2 = p.2 := Option.some.inj (h2.symm.trans h1)
              rw [h3, ← HE.out]; exact HS4.out
            · exact HD.out p' hp' hin
          case measure => rw [RC.out.left_eq, HRL.out]; exact HLT.out
        · have hany : (A.l.any fun p => same4 p.2.t t) = true := by
            rw [List.any_eq_true]
            refine ⟨abT p, by rw [H.out.ab]; exact List.mem_map.2 ⟨p, HP.out, rfl⟩, ?_⟩
            show same4 p.2.2.t t = true
            rw [← HE.out]; exact HS4.out
          have hR2 : R = (A, 0, 8) := by
            rw [← HR.out]; unfold TA.add
            rw [if_neg (by rw [HRT.out]; decide), if_pos hany]
          have HR2 := Lib.hid hR2
          clear hR2 hany
          go_wp2_with fail
          go_ret2
          rw [HR2.out]
          exact ⟨rfl, fun _ => GC.out, S, ⟨mb, L, H.out.no GC.out⟩, GC.out.of_no, fun k hk => .inl hk, fun k hk => hk⟩
end Go.Proofs.Ythoppkklooomgaa