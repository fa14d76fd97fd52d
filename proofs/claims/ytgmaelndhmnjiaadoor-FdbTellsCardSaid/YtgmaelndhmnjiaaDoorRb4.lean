/- the reference's base: add. -/
import Derived.Test.YtgmaelndhmnjiaaDoorRb3
import Derived.Test.YtgmaelndhmnjiaaDoorRbP
namespace Go.Proofs.YtgmaelndhmnjiaaDoor
open Go.RowKit
set_option linter.unusedVariables false
set_option linter.unusedSimpArgs false

theorem cells10 {w : World} {b : Nat} {c0 c1 c2 c3 c4 c5 c6 c7 c8 c9 : Value} {e : TypeId} {f : Nat × Nat} (h : w.heap[b]? = some (.cells #[c0, c1, c2, c3, c4, c5, c6, c7, c8, c9] e f)) :
    w.cell? ⟨b, 0, none⟩ = some c0 ∧ w.cell? ⟨b, 1, none⟩ = some c1 ∧ w.cell? ⟨b, 2, none⟩ = some c2 ∧ w.cell? ⟨b, 3, none⟩ = some c3 ∧ w.cell? ⟨b, 4, none⟩ = some c4 ∧ w.cell? ⟨b, 5, none⟩ = some c5 ∧ w.cell? ⟨b, 6, none⟩ = some c6 ∧ w.cell? ⟨b, 7, none⟩ = some c7 ∧ w.cell? ⟨b, 8, none⟩ = some c8 ∧ w.cell? ⟨b, 9, none⟩ = some c9 := by
  have k : ∀ j u, (#[c0, c1, c2, c3, c4, c5, c6, c7, c8, c9] : Array Value)[j]? = some u → w.cell? ⟨b, j, none⟩ = some u := fun j u h2 => by rw [cell_of_row w b j _ e f h]; exact h2
  exact ⟨k 0 _ rfl, k 1 _ rfl, k 2 _ rfl, k 3 _ rfl, k 4 _ rfl, k 5 _ rfl, k 6 _ rfl, k 7 _ rfl, k 8 _ rfl, k 9 _ rfl⟩
/-- What an operation of the base leaves. -/
def Res15 (w : World) (rb : Nat) (ao : Option Addr) (room life : Int) (rs' : AL) (w' : World) : Prop :=
  ∃ (ao' : Option Addr) (n' cap' : Nat), R15 w' rb ao' n' cap' room life rs' ∧ (ao' = ao ∨ ∀ a, ao' = some a → w.heap.size ≤ a.block) ∧ Fr (S15 rb ao) w w'
theorem Res15.same {w w' : World} {rb n cap : Nat} {ao : Option Addr} {room life : Int} {rs : AL} (h : R15 w rb ao n cap room life rs) (hf : Fr No w w') : Res15 w rb ao room life rs w' := ⟨ao, n, cap, h.no hf, .inl rfl, hf.of_no⟩
theorem Res15.from {w w0 w' : World} {rb : Nat} {ao : Option Addr} {room life : Int} {rs : AL} (hf : Fr No w w0) (h : Res15 w0 rb ao room life rs w') : Res15 w rb ao room life rs w' := by
  obtain ⟨a, b, c, h1, h2, h3⟩ := h
  exact ⟨a, b, c, h1, h2.imp id (fun h x hx => Nat.le_trans hf.size (h x hx)), hf.of_no.trans h3⟩
theorem Res15.to {w w0 w' : World} {rb : Nat} {ao : Option Addr} {room life : Int} {rs : AL} (h : Res15 w rb ao room life rs w0) (hf : Fr No w0 w') : Res15 w rb ao room life rs w' := by
  obtain ⟨a, b, c, h1, h2, h3⟩ := h
  exact ⟨a, b, c, h1.no hf, h2, h3.then_no hf⟩
theorem Put15.res {w w' : World} {rb : Nat} {ao : Option Addr} {room life : Int} {rs : AL} (h : Put15 w rb room life rs w') : Res15 w rb ao room life rs w' := by
  obtain ⟨a, b, c, h1, h2, h3⟩ := h
  exact ⟨a, b, c, h1, .inr h2, h3.mono (fun _ _ h => .inl h)⟩
/-- The place of the one that goes. -/
def LeastAt (rs p : AL) (z : Int) : Prop := (z = -1 ∧ aleast p = none) ∨ ∃ (l : Nat) (y : En), z = (l : Int) ∧ rs[l]? = some y ∧ aleast p = some y
theorem aleast_len {A : AL} (h : aleast A = none) (hs : ∀ e ∈ A, e.st = false) : A = [] := by
  cases A with
  | nil => rfl
  | cons x r => have := aleast_none.1 h x (by simp); rw [hs x (by simp)] at this; cases this
theorem add15_end {wq w7 : World} {rb n cap n3 cap3 : Nat} {ao ao3 : Option Addr} {room life : Int} {rs : AL} {e : En} {k : Nat} (QT : R15 wq rb ao n cap room life rs)
    (G3 : Fr (Up wq.heap.size) wq w7) (O3 : Own w7 62 10 ao3 n3 cap3 (([] ++ rs.take k ++ [e] ++ rs.drop k).flatMap encE)) (E3 : ∀ a, ao3 = some a → wq.heap.size ≤ a.block)
    (hn : n3 = (rs.take k ++ e :: rs.drop k).length) {P : Ending → World → Prop} (HA : ∀ w', Put15 wq rb room life (rs.take k ++ e :: rs.drop k) w' → P (.returned (.int .i64 0)) w') (he : e.ok) :
    P (.returned (.int .i64 0)) (w7.setCell ⟨rb, 2, none⟩ (.slice ao3 n3 cap3)) := by
  have e1 : [] ++ rs.take k ++ [e] ++ rs.drop k = rs.take k ++ e :: rs.drop k := by simp
  rw [e1] at O3
  refine HA _ (put15_end QT G3 O3 E3 hn (fun x hx => ?_)).2
  rcases List.mem_append.1 hx with h | h
  · exact QT.ok x (List.mem_of_mem_take h)
  · rcases List.mem_cons.1 h with rfl | h
    · exact he
    · exact QT.ok x (List.mem_of_mem_drop h)

theorem Res15.put {w w0 w' : World} {rb : Nat} {ao : Option Addr} {room life : Int} {rs rs' : AL} (h : Res15 w rb ao room life rs w0) (k : Put15 w0 rb room life rs' w') : Res15 w rb ao room life rs' w' := by
  obtain ⟨a, b, c, h1, h2, h3⟩ := h
  obtain ⟨a', b', c', k1, k2, k3⟩ := k
  exact ⟨a', b', c', k1, .inr (fun x hx => Nat.le_trans h3.size (k2 x hx)), h3.then k3 (fun i _ h => .inl h)⟩
theorem aadd_room {room : Int} {rs : AL} {e : En} (h : (rs.length : Int) < room) : aadd room rs e = (0, aput rs e) := by unfold aadd; rw [if_pos h]
theorem aadd_full {room : Int} {rs : AL} {e : En} (h : ¬ (rs.length : Int) < room) (hl : aleast rs = none) : aadd room rs e = (5, rs) := by unfold aadd; rw [if_neg h, hl]
theorem aadd_least {room : Int} {rs : AL} {e y : En} (h : ¬ (rs.length : Int) < room) (hl : aleast rs = some y) : aadd room rs e = (0, aput (adel rs y.mac) e) := by unfold aadd; rw [if_neg h, hl]
theorem adel_none {rs : AL} {m k : Mac} (h : aget rs m = none) : aget (adel rs k) m = none := by
  rw [aget_none] at h ⊢
  exact fun x hx => h x (mem_adel.1 hx).1
set_option maxRecDepth 100000 in
set_option maxHeartbeats 4000000 in
theorem r15add_any {w : World} {rb n cap : Nat} {ao : Option Addr} {room life : Int} {rs : AL} (h : R15 w rb ao n cap room life rs) (hs : Sor rs) {e : En} (he : e.ok) (hn : aget rs e.mac = none) (hl : rs.length ≤ 64)
    {c : Int} {A' : AL} (hr : aadd room rs e = (c, A')) :
    Calls Tryd.prog 36 #[.pointer (some ⟨rb, 0, none⟩), evE e] w fun r w' => r = .returned (.int .i64 c) ∧ Res15 w rb ao room life A' w' := by
  have hc1 := h.own.le
  have hc2 := h.own.capLe
  have hn64 : n ≤ 64 := by rw [h.len]; exact hl
  obtain ⟨e0, he0⟩ : ∃ x, x = e := ⟨_, rfl⟩
  obtain ⟨⟨m0, m1, m2, m3, m4, m5⟩, tu, pn, at_, st⟩ := e
  have HE := Lib.hid he
  have HN := Lib.hid hn
  have HSO := Lib.hid hs
  have HRR := Lib.hid hr
  have hB := heap_alloc_new w (.cells #[.int .u8 (m0.toNat : Int), .int .u8 (m1.toNat : Int), .int .u8 (m2.toNat : Int), .int .u8 (m3.toNat : Int), .int .u8 (m4.toNat : Int), .int .u8 (m5.toNat : Int), .bool tu, .int .i64 pn, .int .u64 at_, .bool st] 62)
  have hF := (Fr.refl No w).alloc (.cells #[.int .u8 (m0.toNat : Int), .int .u8 (m1.toNat : Int), .int .u8 (m2.toNat : Int), .int .u8 (m3.toNat : Int), .int .u8 (m4.toNat : Int), .int .u8 (m5.toNat : Int), .bool tu, .int .i64 pn, .int .u64 at_, .bool st] 62)
  have H1 := h.no hF
  have hsep : ∀ a, ao = some a → a.block ≠ w.heap.size := fun a ha e => by have := h.own.lt a ha; omega
  have hrb : rb ≠ w.heap.size := fun e => by have := lt_of_heap h.box; omega
  have H0 := Lib.hid h
  clear h he hn hs hr
  unfold evE byteV
  simp only
  go_enter Tryd.func36, Tryd.ntmps36
  go_wp2_with fail
  generalize World.alloc _ _ = w1 at hB hF H1 ⊢
  generalize w.heap.size = bx at hB hsep hrb ⊢
  have HB := Lib.hid hB
  have HF := Lib.hid hF
  have H := Lib.hid H1
  clear hB hF H1
  obtain ⟨k0, k1, k2⟩ := H.out.cells
  obtain ⟨q, hq⟩ : ∃ q, decide (room ≤ (n : Int)) = q := ⟨_, rfl⟩
  go_quiet (fail)
  generalize hw2 : World.drewN _ _ = w2
  have F2 := Lib.hid (show Fr No w1 w2 by rw [← hw2]; exact (Fr.refl No w1).drewN _)
  have B2 := Lib.hid (F2.out.heap HB.out (fun h => h))
  have R2 := Lib.hid (H.out.no F2.out)
  have HQ := Lib.hid hq
  clear hw2 k0 k1 k2 hq
  go_upto_if 17 with fail
  go_cut [7] (fun s7 wc => ∃ (ao1 : Option Addr) (n1 cap1 : Nat) (rs1 : AL), Hid (R15 wc rb ao1 n1 cap1 room life rs1) ∧ Hid (Res15 w1 rb ao room life rs1 wc) ∧ Hid (Sor rs1) ∧ Hid (aget rs1 ⟨m0, m1, m2, m3, m4, m5⟩ = none) ∧ rs1.length ≤ 64 ∧ Hid (c = 0 ∧ A' = aput rs1 ⟨⟨m0, m1, m2, m3, m4, m5⟩, tu, pn, at_, st⟩) ∧ Hid (wc.heap[bx]? = some (.cells #[.int .u8 (m0.toNat : Int), .int .u8 (m1.toNat : Int), .int .u8 (m2.toNat : Int), .int .u8 (m3.toNat : Int), .int .u8 (m4.toNat : Int), .int .u8 (m5.toNat : Int), .bool tu, .int .i64 pn, .int .u64 at_, .bool st] 62 (0, 0))) ∧ Hid (∀ a, ao1 = some a → a.block ≠ bx))
  case first =>
    cases q with
    | false =>
      have hlt : (rs.length : Int) < room := by have h := HQ.out; have h2 := H.out.len; simp at h; omega
      have HA : Hid (c = 0 ∧ A' = aput rs ⟨⟨m0, m1, m2, m3, m4, m5⟩, tu, pn, at_, st⟩) := Lib.hid (by have h := HRR.out; rw [aadd_room hlt] at h; cases h; exact ⟨rfl, rfl⟩)
      clear hlt
      go_wp2_with fail
      go_meet
      exact ⟨ao, n, cap, rs, R2, Lib.hid (Res15.same H.out F2.out), HSO, HN, hl, HA, B2, Lib.hid hsep⟩
    | true =>
      have hlt : ¬ (rs.length : Int) < room := by have h := HQ.out; have h2 := H.out.len; simp at h; omega
      have HLT := Lib.hid (Int.not_lt.1 hlt)
      clear hlt
      go_wp2_with fail
      go_loopw [5, 6] (fun t5 t6 wr => ∃ (i : Nat) (z : Int), i ≤ n ∧ t6 = .int .i64 i ∧ t5 = .int .i64 z ∧ LeastAt rs (rs.take i) z ∧ Fr No w2 wr) (fun _ t6 _ => n - (intOf t6).toNat)
      case atStart => exact ⟨0, -1, by omega, rfl, rfl, .inl ⟨rfl, rfl⟩, Fr.refl _ _⟩
      case round =>
        obtain ⟨i, z, hi, rfl, rfl, hz, f3⟩ := hrel
        have HZ := Lib.hid hz
        have F3 := Lib.hid f3
        have R3 := Lib.hid (R2.out.no f3)
        obtain ⟨k0, k1, k2⟩ := R3.out.cells
        clear hz f3 k0 k1
        by_cases hin : i < n
        · obtain ⟨gb, rfl⟩ := R3.out.some_ hin
          obtain ⟨y, hy⟩ : ∃ y, rs[i]? = some y := ⟨rs[i]'(by rw [← H.out.len]; exact hin), List.getElem?_eq_getElem _⟩
          have HTK : Hid (rs.take (i + 1) = rs.take i ++ [y]) := Lib.hid (by rw [List.take_add_one, hy]; rfl)
          obtain ⟨⟨a0, a1, a2, a3, a4, a5⟩, yt, yn, ya, ys⟩ := y
          obtain ⟨-, -, -, -, -, -, -, -, y8, y9⟩ := e_cells R3.out.own.sl hy
          have HY := Lib.hid hy
          have bi1 : (i : Int) < (n : Int) := by omega
          have bi0 : (0 : Int) ≤ (i : Int) := by omega
          clear hy
          have SN := Lib.hid (aleast_snoc (rs.take i) ⟨⟨a0, a1, a2, a3, a4, a5⟩, yt, yn, ya, ys⟩)
          rw [← HTK.out] at SN
          cases ys with
          | true =>
            have SN2 : Hid (aleast (rs.take (i + 1)) = aleast (rs.take i)) := Lib.hid (by rw [SN.out]; rfl)
            go_wp2_with fail
            go_quiet (fail)
            go_wp2_with fail
            go_roundw
            case rel =>
              refine ⟨i + 1, z, by omega, by go_num, rfl, ?_, F3.out.drewN _⟩
              unfold LeastAt
              rw [SN2.out]
              exact HZ.out
            case measure => simp [intOf]; omega
          | false =>
            rcases HZ.out with ⟨rfl, hal⟩ | ⟨l, yl, rfl, hyl, hal⟩
            · have NX : Hid (aleast (rs.take (i + 1)) = some ⟨⟨a0, a1, a2, a3, a4, a5⟩, yt, yn, ya, false⟩) := Lib.hid (by rw [SN.out, hal]; rfl)
              clear hal
              go_wp2_with fail
              go_quiet (fail)
              go_wp2_with fail
              go_roundw
              case rel => exact ⟨i + 1, i, by omega, by go_num, rfl, .inr ⟨i, _, rfl, HY.out, NX.out⟩, F3.out.drewN _⟩
              case measure => simp [intOf]; omega
            · have hln : l < n := by have := (List.getElem?_eq_some_iff.1 hyl).1; have := H.out.len; omega
              obtain ⟨⟨d0, d1, d2, d3, d4, d5⟩, lt, ln, la, ls⟩ := yl
              obtain ⟨-, -, -, -, -, -, -, -, l8, -⟩ := e_cells R3.out.own.sl hyl
              have HYL := Lib.hid hyl
              have bl1 : (l : Int) < (n : Int) := by omega
              have bl0 : (0 : Int) ≤ (l : Int) := by omega
              have bl2 : decide ((l : Int) < 0) = false := decide_eq_false (by omega)
              obtain ⟨q2, hq2⟩ : ∃ q2, decide (ya < la) = q2 := ⟨_, rfl⟩
              have NX : Hid (aleast (rs.take (i + 1)) = if ya < la then some ⟨⟨a0, a1, a2, a3, a4, a5⟩, yt, yn, ya, false⟩ else some ⟨⟨d0, d1, d2, d3, d4, d5⟩, lt, ln, la, ls⟩) := Lib.hid (by rw [SN.out, hal]; rfl)
              have HQ2 := Lib.hid hq2
              clear hal hyl hln
              cases q2 with
              | true =>
                go_wp2_with fail
                go_quiet (fail)
                clear hq2
                go_wp2_with fail
                go_roundw
                case rel => exact ⟨i + 1, i, by omega, by go_num, rfl, .inr ⟨i, _, rfl, HY.out, by rw [NX.out, if_pos (of_decide_eq_true HQ2.out)]⟩, F3.out.drewN _⟩
                case measure => simp [intOf]; omega
              | false =>
                go_wp2_with fail
                go_quiet (fail)
                clear hq2
                go_wp2_with fail
                go_roundw
                case rel => exact ⟨i + 1, l, by omega, by go_num, rfl, .inr ⟨l, _, rfl, HYL.out, by rw [NX.out, if_neg (of_decide_eq_false HQ2.out)]⟩, F3.out.drewN _⟩
                case measure => simp [intOf]; omega
        · have htk : rs.take i = rs := List.take_of_length_le (by have := H.out.len; omega)
          rw [htk] at HZ
          clear htk
          rcases HZ.out with ⟨rfl, hal⟩ | ⟨l, yl, rfl, hyl, hal⟩
          · have HA : Hid (c = 5 ∧ A' = rs) := Lib.hid (by have h := HRR.out; rw [aadd_full (Int.not_lt.2 HLT.out) hal] at h; cases h; exact ⟨rfl, rfl⟩)
            clear hal
            go_wp2_with fail
            go_ret
            obtain ⟨hc, hA⟩ := HA.out
            rw [hc, hA]
            exact ⟨rfl, Res15.same H0.out (HF.out.trans (F2.out.trans F3.out))⟩
          · have hln : l < n := by have := (List.getElem?_eq_some_iff.1 hyl).1; have := H.out.len; omega
            have HA : Hid (c = 0 ∧ A' = aput (adel rs yl.mac) ⟨⟨m0, m1, m2, m3, m4, m5⟩, tu, pn, at_, st⟩) := Lib.hid (by have h := HRR.out; rw [aadd_least (Int.not_lt.2 HLT.out) hal] at h; cases h; exact ⟨rfl, rfl⟩)
            have hcut := adel_cut HSO.out hyl
            have HCU := Lib.hid hcut
            have bl2 : ¬ (l : Int) < 0 := by omega
            have B3 := Lib.hid (F3.out.heap B2.out (fun h => h))
            clear hal hyl hcut
            go_wp2_with fail
            refine (r15cut_any R3.out hln hl).mono ?_
            rintro e w4 ⟨rfl, hp⟩
            have P4 := Lib.hid hp
            clear hp
            go_wp2_with fail
            go_meet
            obtain ⟨a4, n4, c4, p1, p2, p3⟩ := P4.out
            have hlb := lt_of_heap B3.out
            refine ⟨a4, n4, c4, adel rs yl.mac, Lib.hid (by rw [HCU.out]; exact p1), Lib.hid (by rw [HCU.out]; exact (Res15.same H.out (F2.out.trans F3.out)).put P4.out), Lib.hid (HSO.out.filter _), Lib.hid (adel_none HN.out), Nat.le_trans (List.length_filter_le _ _) hl, HA, Lib.hid (p3.heap B3.out (fun h : bx = rb => hrb h.symm)), Lib.hid (fun a ha => by have := p2 a ha; omega)⟩
  case rest =>
    clear HQ HRR HN HSO B2 R2 hl hc1 hc2 hn64 hsep
    obtain ⟨ao9, n, cap, rs, hR, hRES, hSO, hNG, hl, hCA, hB, hbx⟩ := hcut
    have hc1 := hR.out.own.le
    have hc2 := hR.out.own.capLe
    have hn64 : n ≤ 64 := by rw [hR.out.len]; exact hl
    generalize wc = w3 at hR hRES hB ⊢
    have hfin : Hid (∀ W, Put15 w3 rb room life A' W → Res15 w rb ao room life A' W) := Lib.hid (fun W k => Res15.from HF.out (hRES.out.put k))
    go_upto_block 2 with fail
    go_cut [7] (fun t7 wc => ∃ k : Nat, k ≤ n ∧ t7 = .int .i64 k ∧ Hid (A' = rs.take k ++ ⟨⟨m0, m1, m2, m3, m4, m5⟩, tu, pn, at_, st⟩ :: rs.drop k) ∧ Fr No w3 wc)
    case first =>
      go_wp2_with fail
      go_loopw [7] (fun t7 wr => ∃ k : Nat, k ≤ n ∧ t7 = .int .i64 k ∧ (∀ x ∈ rs.take k, ltM x.mac ⟨m0, m1, m2, m3, m4, m5⟩ = true) ∧ Fr No w3 wr) (fun t7 _ => n - (intOf t7).toNat)
      case atStart => exact ⟨0, by omega, rfl, by simp, Fr.refl _ _⟩
      case round =>
        obtain ⟨k, hk, rfl, hlt, f4⟩ := hrel
        have HLT := Lib.hid hlt
        have F4 := Lib.hid f4
        have R4 := Lib.hid (hR.out.no f4)
        have B4 := Lib.hid (f4.heap hB.out (fun h => h))
        obtain ⟨k0, k1, k2⟩ := R4.out.cells
        clear hlt f4 k0 k1
        have HDONE : Hid ((∀ y, rs[k]? = some y → ltM y.mac ⟨m0, m1, m2, m3, m4, m5⟩ = false) → A' = rs.take k ++ ⟨⟨m0, m1, m2, m3, m4, m5⟩, tu, pn, at_, st⟩ :: rs.drop k) := Lib.hid (fun h => by rw [hCA.out.2]; exact aput_ins hSO.out hNG.out HLT.out h)
        by_cases hkn : k < n
        · obtain ⟨gb, rfl⟩ := R4.out.some_ hkn
          obtain ⟨y, hy⟩ : ∃ y, rs[k]? = some y := ⟨rs[k]'(by rw [← hR.out.len]; exact hkn), List.getElem?_eq_getElem _⟩
          have HTK : Hid (rs.take (k + 1) = rs.take k ++ [y]) := Lib.hid (by rw [List.take_add_one, hy]; rfl)
          obtain ⟨⟨a0, a1, a2, a3, a4, a5⟩, yt, yn, ya, ys⟩ := y
          obtain ⟨y0, y1, y2, y3, y4, y5, -⟩ := e_cells R4.out.own.sl hy
          obtain ⟨x0, x1, x2, x3, x4, x5, -⟩ := cells10 B4.out
          have HY := Lib.hid hy
          have bk1 : (k : Int) < (n : Int) := by omega
          have bk0 : (0 : Int) ≤ (k : Int) := by omega
          have bk2 : decide ((k : Int) < (n : Int)) = true := decide_eq_true bk1
          have bk3 : decide (k < n) = true := decide_eq_true hkn
          obtain ⟨q, hq⟩ : ∃ q, ltM ⟨a0, a1, a2, a3, a4, a5⟩ ⟨m0, m1, m2, m3, m4, m5⟩ = q := ⟨_, rfl⟩
          have HQ := Lib.hid hq
          have SF : Hid (∀ W, Fr No wr W → (W.cell? ⟨rb, 2, none⟩ = some (.slice (some ⟨gb, 0, none⟩) n cap) ∧ W.cell? ⟨gb, k * 10, none⟩ = some (.int .u8 (a0.toNat : Int)) ∧ W.cell? ⟨gb, k * 10 + 1, none⟩ = some (.int .u8 (a1.toNat : Int)) ∧ W.cell? ⟨gb, k * 10 + 2, none⟩ = some (.int .u8 (a2.toNat : Int)) ∧ W.cell? ⟨gb, k * 10 + 3, none⟩ = some (.int .u8 (a3.toNat : Int)) ∧ W.cell? ⟨gb, k * 10 + 4, none⟩ = some (.int .u8 (a4.toNat : Int)) ∧ W.cell? ⟨gb, k * 10 + 5, none⟩ = some (.int .u8 (a5.toNat : Int)) ∧
              W.cell? ⟨bx, 0, none⟩ = some (.int .u8 (m0.toNat : Int)) ∧ W.cell? ⟨bx, 1, none⟩ = some (.int .u8 (m1.toNat : Int)) ∧ W.cell? ⟨bx, 2, none⟩ = some (.int .u8 (m2.toNat : Int)) ∧ W.cell? ⟨bx, 3, none⟩ = some (.int .u8 (m3.toNat : Int)) ∧ W.cell? ⟨bx, 4, none⟩ = some (.int .u8 (m4.toNat : Int)) ∧ W.cell? ⟨bx, 5, none⟩ = some (.int .u8 (m5.toNat : Int)))) := Lib.hid (fun W f => ⟨f.cell k2 (fun h => h), f.cell y0 (fun h => h), f.cell y1 (fun h => h), f.cell y2 (fun h => h), f.cell y3 (fun h => h), f.cell y4 (fun h => h), f.cell y5 (fun h => h), f.cell x0 (fun h => h), f.cell x1 (fun h => h), f.cell x2 (fun h => h), f.cell x3 (fun h => h), f.cell x4 (fun h => h), f.cell x5 (fun h => h)⟩)
          clear hy hq
          go_wp2_with fail
          go_region_held3 (fun W => (W.cell? ⟨rb, 2, none⟩ = some (.slice (some ⟨gb, 0, none⟩) n cap) ∧ W.cell? ⟨gb, k * 10, none⟩ = some (.int .u8 (a0.toNat : Int)) ∧ W.cell? ⟨gb, k * 10 + 1, none⟩ = some (.int .u8 (a1.toNat : Int)) ∧ W.cell? ⟨gb, k * 10 + 2, none⟩ = some (.int .u8 (a2.toNat : Int)) ∧ W.cell? ⟨gb, k * 10 + 3, none⟩ = some (.int .u8 (a3.toNat : Int)) ∧ W.cell? ⟨gb, k * 10 + 4, none⟩ = some (.int .u8 (a4.toNat : Int)) ∧ W.cell? ⟨gb, k * 10 + 5, none⟩ = some (.int .u8 (a5.toNat : Int)) ∧
              W.cell? ⟨bx, 0, none⟩ = some (.int .u8 (m0.toNat : Int)) ∧ W.cell? ⟨bx, 1, none⟩ = some (.int .u8 (m1.toNat : Int)) ∧ W.cell? ⟨bx, 2, none⟩ = some (.int .u8 (m2.toNat : Int)) ∧ W.cell? ⟨bx, 3, none⟩ = some (.int .u8 (m3.toNat : Int)) ∧ W.cell? ⟨bx, 4, none⟩ = some (.int .u8 (m4.toNat : Int)) ∧ W.cell? ⟨bx, 5, none⟩ = some (.int .u8 (m5.toNat : Int))))
            (first | exact SF.out _ (Fr.refl _ _).drew | exact SF.out _ ((Fr.refl _ _).drew.trans f5) | go_keep)
            (first | (go_at_call 52; refine (r15Less_any ⟨a0, a1, a2, a3, a4, a5⟩ ⟨m0, m1, m2, m3, m4, m5⟩ _ HQ.out).mono ?_; rintro e w5 ⟨rfl, f5⟩))
          have F5 := Lib.hid ((F4.out.drew).trans f5)
          clear f5
          cases q with
          | true =>
            go_wp2_with fail
            go_roundw
            case rel =>
              refine ⟨k + 1, by omega, by go_num, fun x hx => ?_, F5.out⟩
              rw [HTK.out] at hx
              rcases List.mem_append.1 hx with hx | hx
              · exact HLT.out x hx
              · rw [List.mem_singleton] at hx; rw [hx]; exact HQ.out
            case measure => simp [intOf]; omega
          | false =>
            go_wp2_with fail
            go_meet
            exact ⟨k, hk, rfl, Lib.hid (HDONE.out (fun z hz => by rw [HY.out] at hz; cases hz; exact HQ.out)), F5.out⟩
        · have bk2 : decide ((k : Int) < (n : Int)) = false := decide_eq_false (by omega)
          have bk3 : decide (k < n) = false := decide_eq_false hkn
          go_wp2_with fail
          go_quiet (fail)
          go_wp2_with fail
          go_meet
          exact ⟨k, hk, rfl, Lib.hid (HDONE.out (fun z hz => by have := (List.getElem?_eq_some_iff.1 hz).1; have := hR.out.len; omega)), F4.out.drewN _⟩
    case rest =>
      obtain ⟨k, hk, rfl, hAk, hf⟩ := hcut
      have QT := Lib.hid (hR.out.no hf)
      have QB := Lib.hid (hf.heap hB.out (fun h => h))
      have hkn := hk
      have HA : Hid (∀ W, Put15 wc rb room life (rs.take k ++ ⟨⟨m0, m1, m2, m3, m4, m5⟩, tu, pn, at_, st⟩ :: rs.drop k) W → Ending.returned (.int .i64 0) = .returned (.int .i64 c) ∧ Res15 w rb ao room life A' W) := Lib.hid (fun W hp => ⟨by rw [hCA.out.1], by rw [← hAk.out] at hp; exact Res15.from HF.out ((hRES.out.to hf).put hp)⟩)
      clear hf hfin hR hRES hSO hNG hCA hB hAk
      generalize wc = wq at QT QB HA ⊢
      obtain ⟨b0, b1, b2, b3, b4, b5, b6, b7, b8, b9⟩ := cells10 QB.out
      obtain ⟨k0, k1, k2⟩ := QT.out.cells
      have kz : wq.frozen? ⟨rb, 2, none⟩ = false := frozen_of_row wq rb 2 _ _ QT.out.box
      have bk3 : (0 : Int) ≤ (k : Int) := by omega
      have bk4 : (k : Int) ≤ (cap : Int) := by omega
      have bk5 : (k : Int) ≤ (n : Int) := by omega
      have bk6 : (n : Int) ≤ (cap : Int) := by omega
      have hrb2 := lt_of_heap QT.out.box
      cases ao9 with
      | none =>
        obtain rfl : cap = 0 := QT.out.own.nocap rfl
        obtain rfl : n = 0 := by omega
        obtain rfl : k = 0 := by omega
        have HS1 : Hid (∀ W, Fr (Up wq.heap.size) wq W → Sl W none 0 0 ((rs.take 0).flatMap encE)) := Lib.hid (fun W f => (Sl.nil W))
        have HS2 : Hid (∀ W, Fr (Up wq.heap.size) wq W → Sl W none 0 0 ((rs.drop 0).flatMap encE)) := Lib.hid (fun W f => by rw [List.eq_nil_of_length_eq_zero QT.out.len.symm]; exact Sl.nil W)
        have OE := Lib.hid ((Own.made (w := wq) (e := 62) (size := 10) #[] 0 rfl (by decide)).no (Fr.refl No _).drew)
        have OE1 := Lib.hid ((Own.made (w := wq) (e := 62) (size := 10) #[] 0 rfl (by decide)).no ((Fr.refl No _).alloc (.cells #[.int .u8 (m0.toNat : Int), .int .u8 (m1.toNat : Int), .int .u8 (m2.toNat : Int), .int .u8 (m3.toNat : Int), .int .u8 (m4.toNat : Int), .int .u8 (m5.toNat : Int), .bool tu, .int .i64 pn, .int .u64 at_, .bool st] 62)).drew)
        have OE2 := Lib.hid ((Own.made (w := wq.alloc (.cells #[.int .u8 (m0.toNat : Int), .int .u8 (m1.toNat : Int), .int .u8 (m2.toNat : Int), .int .u8 (m3.toNat : Int), .int .u8 (m4.toNat : Int), .int .u8 (m5.toNat : Int), .bool tu, .int .i64 pn, .int .u64 at_, .bool st] 62)) (e := 62) (size := 10) #[] 0 rfl (by decide)).no (Fr.refl No _).drew)
        have OB := Lib.hid ((((Own.made (w := wq.alloc (.cells #[] 62)) (e := 62) (size := 10) #[.int .u8 (m0.toNat : Int), .int .u8 (m1.toNat : Int), .int .u8 (m2.toNat : Int), .int .u8 (m3.toNat : Int), .int .u8 (m4.toNat : Int), .int .u8 (m5.toNat : Int), .bool tu, .int .i64 pn, .int .u64 at_, .bool st] 1 rfl (by decide))).no (Fr.refl No _).drew))
        have OC := Lib.hid ((Own.made (w := wq) (e := 62) (size := 10) #[.int .u8 (m0.toNat : Int), .int .u8 (m1.toNat : Int), .int .u8 (m2.toNat : Int), .int .u8 (m3.toNat : Int), .int .u8 (m4.toNat : Int), .int .u8 (m5.toNat : Int), .bool tu, .int .i64 pn, .int .u64 at_, .bool st] 1 rfl (by decide)).no ((Fr.refl No _).alloc (.cells #[] 62)).drew)
        rw [show (wq.alloc (.cells #[] 62)).heap.size = wq.heap.size + 1 from by simp] at OB
        rw [show (wq.alloc (.cells #[.int .u8 (m0.toNat : Int), .int .u8 (m1.toNat : Int), .int .u8 (m2.toNat : Int), .int .u8 (m3.toNat : Int), .int .u8 (m4.toNat : Int), .int .u8 (m5.toNat : Int), .bool tu, .int .i64 pn, .int .u64 at_, .bool st] 62)).heap.size = wq.heap.size + 1 from by simp] at OE2
        have SF : Hid (∀ w', Fr (Up wq.heap.size) wq w' → w'.cell? ⟨rb, 2, none⟩ = some (.slice none 0 0) ∧ w'.frozen? ⟨rb, 2, none⟩ = false ∧ w'.cell? ⟨bx, 0, none⟩ = some (.int .u8 (m0.toNat : Int)) ∧ w'.cell? ⟨bx, 1, none⟩ = some (.int .u8 (m1.toNat : Int)) ∧ w'.cell? ⟨bx, 2, none⟩ = some (.int .u8 (m2.toNat : Int)) ∧ w'.cell? ⟨bx, 3, none⟩ = some (.int .u8 (m3.toNat : Int)) ∧ w'.cell? ⟨bx, 4, none⟩ = some (.int .u8 (m4.toNat : Int)) ∧ w'.cell? ⟨bx, 5, none⟩ = some (.int .u8 (m5.toNat : Int)) ∧ w'.cell? ⟨bx, 6, none⟩ = some (.bool tu) ∧ w'.cell? ⟨bx, 7, none⟩ = some (.int .i64 pn) ∧ w'.cell? ⟨bx, 8, none⟩ = some (.int .u64 at_) ∧ w'.cell? ⟨bx, 9, none⟩ = some (.bool st)) := Lib.hid (by
          intro w' f
          have hlb := lt_of_heap QB.out
          have h1 := f.heap QT.out.box (by simp only [Up]; omega)
          have h2 := f.heap QB.out (by simp only [Up]; omega)
          exact ⟨by rw [cell_of_row w' rb 2 _ _ _ h1]; rfl, frozen_of_row w' rb 2 _ _ h1, cells10 h2⟩)
        go_wp2_with fail
        refine wp_region_tail (S := (fun w' => w'.cell? ⟨rb, 2, none⟩ = some (.slice none 0 0) ∧ w'.frozen? ⟨rb, 2, none⟩ = false ∧ w'.cell? ⟨bx, 0, none⟩ = some (.int .u8 (m0.toNat : Int)) ∧ w'.cell? ⟨bx, 1, none⟩ = some (.int .u8 (m1.toNat : Int)) ∧ w'.cell? ⟨bx, 2, none⟩ = some (.int .u8 (m2.toNat : Int)) ∧ w'.cell? ⟨bx, 3, none⟩ = some (.int .u8 (m3.toNat : Int)) ∧ w'.cell? ⟨bx, 4, none⟩ = some (.int .u8 (m4.toNat : Int)) ∧ w'.cell? ⟨bx, 5, none⟩ = some (.int .u8 (m5.toNat : Int)) ∧ w'.cell? ⟨bx, 6, none⟩ = some (.bool tu) ∧ w'.cell? ⟨bx, 7, none⟩ = some (.int .i64 pn) ∧ w'.cell? ⟨bx, 8, none⟩ = some (.int .u64 at_) ∧ w'.cell? ⟨bx, 9, none⟩ = some (.bool st))) rfl (by kernel_rfl) (by kernel_rfl) ?_ (fun hHeld => ?_)
        · ((try dsimp only); exact SF.out _ (Fr.refl _ wq).drew)
        · skip
          simp only [List.dropLast_cons_cons, List.dropLast_singleton, List.length_cons, List.length_nil, Nat.zero_add, Nat.reduceAdd, List.replicate]
          apply wpAnyH_take (i := 0)
          · rfl
          · kernel_rfl
          · kernel_rfl
          · kernel_rfl
          · exact fun _ _ _ h => h
          · (refine Or.inl ⟨by rfl, ?_⟩; intro w hSw; (try dsimp only at hSw); go_simp; try with_reducible rfl)
          · assumption
          simp only [Act.put, List.setIfInBounds_toArray, List.set_cons_zero, List.set_cons_succ]
          apply wpAnyH_take (i := 2)
          · rfl
          · kernel_rfl
          · kernel_rfl
          · kernel_rfl
          · exact fun _ _ _ h => h
          · (refine Or.inl ⟨by rfl, ?_⟩; intro w hSw; (try dsimp only at hSw); go_simp; try with_reducible rfl)
          · assumption
          simp only [Act.put, List.setIfInBounds_toArray, List.set_cons_zero, List.set_cons_succ]
          apply wpAnyH_take (i := 3)
          · rfl
          · kernel_rfl
          · kernel_rfl
          · kernel_rfl
          · exact fun _ _ _ h => h
          · (refine Or.inl ⟨by rfl, ?_⟩; intro w hSw; (try dsimp only at hSw); go_simp; try with_reducible rfl)
          · assumption
          simp only [Act.put, List.setIfInBounds_toArray, List.set_cons_zero, List.set_cons_succ]
          apply wpAnyH_take (i := 4)
          · rfl
          · kernel_rfl
          · kernel_rfl
          · kernel_rfl
          · exact fun _ _ _ h => h
          · (refine Or.inl ⟨by rfl, ?_⟩; intro w hSw; (try dsimp only at hSw); go_simp; try with_reducible rfl)
          · assumption
          simp only [Act.put, List.setIfInBounds_toArray, List.set_cons_zero, List.set_cons_succ]
          apply wpAnyH_take (i := 5)
          · rfl
          · kernel_rfl
          · kernel_rfl
          · kernel_rfl
          · exact fun _ _ _ h => h
          · (refine Or.inl ⟨by rfl, ?_⟩; intro w hSw; (try dsimp only at hSw); go_simp; try with_reducible rfl)
          · assumption
          simp only [Act.put, List.setIfInBounds_toArray, List.set_cons_zero, List.set_cons_succ]
          apply wpAnyH_take (i := 6)
          · rfl
          · kernel_rfl
          · kernel_rfl
          · kernel_rfl
          · exact fun _ _ _ h => h
          · (refine Or.inl ⟨by rfl, ?_⟩; intro w hSw; (try dsimp only at hSw); go_simp; try with_reducible rfl)
          · assumption
          simp only [Act.put, List.setIfInBounds_toArray, List.set_cons_zero, List.set_cons_succ]
          apply wpAnyH_take (i := 7)
          · rfl
          · kernel_rfl
          · kernel_rfl
          · kernel_rfl
          · exact fun _ _ _ h => h
          · (refine Or.inl ⟨by rfl, ?_⟩; intro w hSw; (try dsimp only at hSw); go_simp; try with_reducible rfl)
          · assumption
          simp only [Act.put, List.setIfInBounds_toArray, List.set_cons_zero, List.set_cons_succ]
          apply wpAnyH_take (i := 9)
          · rfl
          · kernel_rfl
          · kernel_rfl
          · kernel_rfl
          · exact fun _ _ _ h => h
          · (refine Or.inl ⟨by rfl, ?_⟩; intro w hSw; (try dsimp only at hSw); go_simp; try with_reducible rfl)
          · assumption
          simp only [Act.put, List.setIfInBounds_toArray, List.set_cons_zero, List.set_cons_succ]
          apply wpAnyH_take (i := 12)
          · rfl
          · kernel_rfl
          · kernel_rfl
          · kernel_rfl
          · exact fun _ _ _ h => h
          · (refine Or.inl ⟨by rfl, ?_⟩; intro w hSw; (try dsimp only at hSw); go_simp; try with_reducible rfl)
          · assumption
          simp only [Act.put, List.setIfInBounds_toArray, List.set_cons_zero, List.set_cons_succ]
          apply wpAnyH_take (i := 13)
          · rfl
          · kernel_rfl
          · kernel_rfl
          · kernel_rfl
          · exact fun _ _ _ h => h
          · (refine Or.inl ⟨by rfl, ?_⟩; intro w hSw; (try dsimp only at hSw); go_simp; try with_reducible rfl)
          · assumption
          simp only [Act.put, List.setIfInBounds_toArray, List.set_cons_zero, List.set_cons_succ]
          apply wpAnyH_take (i := 14)
          · rfl
          · kernel_rfl
          · kernel_rfl
          · kernel_rfl
          · exact fun _ _ _ h => h
          · (refine Or.inl ⟨by rfl, ?_⟩; intro w hSw; (try dsimp only at hSw); go_simp; try with_reducible rfl)
          · assumption
          simp only [Act.put, List.setIfInBounds_toArray, List.set_cons_zero, List.set_cons_succ]
          apply wpAnyH_take (i := 15)
          · rfl
          · kernel_rfl
          · kernel_rfl
          · kernel_rfl
          · exact fun _ _ _ h => h
          · (refine Or.inl ⟨by rfl, ?_⟩; intro w hSw; (try dsimp only at hSw); go_simp; try with_reducible rfl)
          · assumption
          simp only [Act.put, List.setIfInBounds_toArray, List.set_cons_zero, List.set_cons_succ]
          apply wpAnyH_take (i := 16)
          · rfl
          · kernel_rfl
          · kernel_rfl
          · kernel_rfl
          · exact fun _ _ _ h => h
          · (refine Or.inl ⟨by rfl, ?_⟩; intro w hSw; (try dsimp only at hSw); go_simp; try with_reducible rfl)
          · assumption
          simp only [Act.put, List.setIfInBounds_toArray, List.set_cons_zero, List.set_cons_succ]
          apply wpAnyH_take (i := 17)
          · rfl
          · kernel_rfl
          · kernel_rfl
          · kernel_rfl
          · exact fun _ _ _ h => h
          · (refine Or.inl ⟨by rfl, ?_⟩; intro w hSw; (try dsimp only at hSw); go_simp; try with_reducible rfl)
          · assumption
          simp only [Act.put, List.setIfInBounds_toArray, List.set_cons_zero, List.set_cons_succ]
          refine wpAnyH_ready (rs := [1, 10]) (by kernel_rfl) (by simp) (AllReadyH.cons rfl (fun K hK => ?_) (AllReadyH.cons rfl (fun K hK => ?_) AllReadyH.nil))
          · skip
            go_simp
            refine hK.out _ _ ?_ (fun hHeld => ?_)
            · ((try dsimp only); first | exact SF.out _ ((Fr.refl _ wq).alloc _).drew | exact SF.out _ (((Fr.refl _ wq).alloc _).alloc _).drew | exact SF.out _ G3.out | exact SF.out _ G2.out | exact SF.out _ (G1.out.alloc _) | exact SF.out _ G1.out)
            · skip
              clear hK K
              (try simp only [Act.put, List.setIfInBounds_toArray, List.set_cons_zero, List.set_cons_succ])
              refine wpAnyH_ready (rs := [8, 10]) (by kernel_rfl) (by simp) (AllReadyH.cons rfl (fun K hK => ?_) (AllReadyH.cons rfl (fun K hK => ?_) AllReadyH.nil))
              · skip
                refine step_append_15 (.tmp 88) (.tmp 94) (by rfl) (by rfl) (by rfl) (by rfl) (xs := []) (ys := rs.take 0)
                  (by first | exact OE.out | exact OE1.out | exact OE2.out)
                  (HS1.out _ (by first | exact ((Fr.refl _ wq).alloc _).drew | exact (((Fr.refl _ wq).alloc _).alloc _).drew))
                  (by rw [List.length_take, ← QT.out.len]; omega) (by omega) (by omega) ?_
                intro ao1 cap1 w5 n1 hn1 o1 f1 d1
                have g1 : Fr (Up wq.heap.size) wq w5 := by
                  first
                    | exact (((Fr.refl _ wq).alloc _).drew).then f1 (by rintro i hi ⟨x, hx, rfl⟩; cases hx; simp only [Up]; omega)
                    | exact ((((Fr.refl _ wq).alloc _).alloc _).drew).then f1 (by rintro i hi ⟨x, hx, rfl⟩; cases hx; simp only [Up]; omega)
                have e1 : ∀ a, ao1 = some a → wq.heap.size ≤ a.block := by
                  intro a ha
                  rcases d1 with h | h
                  · rw [h] at ha; cases ha; simp only; omega
                  · have h2 := h a ha; simp at h2; omega
                have G1 := Lib.hid g1
                have O1 := Lib.hid o1
                have E1 := Lib.hid e1
                have D1 := Lib.hid f1
                clear g1 o1 e1 d1 f1
                refine hK.out _ _ ?_ (fun hHeld => ?_)
                · ((try dsimp only); first | exact SF.out _ ((Fr.refl _ wq).alloc _).drew | exact SF.out _ (((Fr.refl _ wq).alloc _).alloc _).drew | exact SF.out _ G3.out | exact SF.out _ G2.out | exact SF.out _ (G1.out.alloc _) | exact SF.out _ G1.out)
                · skip
                  clear hK K
                  (try simp only [Act.put, List.setIfInBounds_toArray, List.set_cons_zero, List.set_cons_succ])
                  refine wpAnyH_ready (rs := [10]) (by kernel_rfl) (by simp) (AllReadyH.cons rfl (fun K hK => ?_) AllReadyH.nil)
                  · skip
                    go_simp
                    refine hK.out _ _ ?_ (fun hHeld => ?_)
                    · ((try dsimp only); first | exact SF.out _ ((Fr.refl _ wq).alloc _).drew | exact SF.out _ (((Fr.refl _ wq).alloc _).alloc _).drew | exact SF.out _ G3.out | exact SF.out _ G2.out | exact SF.out _ (G1.out.alloc _) | exact SF.out _ G1.out)
                    · skip
                      clear hK K
                      (try simp only [Act.put, List.setIfInBounds_toArray, List.set_cons_zero, List.set_cons_succ])
                      refine wpAnyH_ready (rs := [11]) (by kernel_rfl) (by simp) (AllReadyH.cons rfl (fun K hK => ?_) AllReadyH.nil)
                      · skip
                        refine step_append_15 (.tmp 95) (.tmp 97) (by rfl) (by rfl) (by rfl) (by rfl) (xs := [] ++ rs.take 0) (ys := [⟨⟨m0, m1, m2, m3, m4, m5⟩, tu, pn, at_, st⟩])
                          (by first | exact O1.out | exact O1.out.no ((Fr.refl No _).alloc _))
                          (by first | exact (Own.made (w := w5) (e := 62) (size := 10) #[.int .u8 (m0.toNat : Int), .int .u8 (m1.toNat : Int), .int .u8 (m2.toNat : Int), .int .u8 (m3.toNat : Int), .int .u8 (m4.toNat : Int), .int .u8 (m5.toNat : Int), .bool tu, .int .i64 pn, .int .u64 at_, .bool st] 1 rfl (by decide)).sl | exact OB.out.sl.fr D1.out (by intro a ha ⟨x, hx, hxb⟩; cases ha; cases hx; simp only at hxb; omega) | exact OC.out.sl.fr D1.out (by intro a ha ⟨x, hx, hxb⟩; cases ha; cases hx; simp at hxb))
                          (by rfl) (by have := hn1.out; omega) (by omega) ?_
                        intro ao2 cap2 w6 n2 hn2 o2 f2 d2
                        have g2 : Fr (Up wq.heap.size) wq w6 := by
                          first
                            | exact G1.out.then f2 (by rintro i hi ⟨x, hx, rfl⟩; exact E1.out x hx)
                            | exact (G1.out.alloc _).then f2 (by rintro i hi ⟨x, hx, rfl⟩; exact E1.out x hx)
                        have e2 : ∀ a, ao2 = some a → wq.heap.size ≤ a.block := by
                          intro a ha
                          have hg := G1.out.size
                          rcases d2 with h | h
                          · exact E1.out a (by rw [← h]; exact ha)
                          · have h2 := h a ha; first | omega | (simp at h2; omega)
                        have G2 := Lib.hid g2
                        have O2 := Lib.hid o2
                        have E2 := Lib.hid e2
                        clear g2 o2 e2 d2 f2
                        refine hK.out _ _ ?_ (fun hHeld => ?_)
                        · ((try dsimp only); first | exact SF.out _ ((Fr.refl _ wq).alloc _).drew | exact SF.out _ (((Fr.refl _ wq).alloc _).alloc _).drew | exact SF.out _ G3.out | exact SF.out _ G2.out | exact SF.out _ (G1.out.alloc _) | exact SF.out _ G1.out)
                        · skip
                          clear hK K
                          (try simp only [Act.put, List.setIfInBounds_toArray, List.set_cons_zero, List.set_cons_succ])
                          refine wpAnyH_ready (rs := [18]) (by kernel_rfl) (by simp) (AllReadyH.cons rfl (fun K hK => ?_) AllReadyH.nil)
                          · skip
                            refine step_append_15 (.tmp 98) (.tmp 104) (by rfl) (by rfl) (by rfl) (by rfl) (xs := [] ++ rs.take 0 ++ [⟨⟨m0, m1, m2, m3, m4, m5⟩, tu, pn, at_, st⟩]) (ys := rs.drop 0)
                              O2.out (HS2.out _ G2.out) (by rw [List.length_drop, ← QT.out.len]) (by have := hn1.out; have := hn2.out; omega) (by omega) ?_
                            intro ao3 cap3 w7 n3 hn3 o3 f3 d3
                            have g3 : Fr (Up wq.heap.size) wq w7 := G2.out.then f3 (by rintro i hi ⟨x, hx, rfl⟩; exact E2.out x hx)
                            have e3 : ∀ a, ao3 = some a → wq.heap.size ≤ a.block := by
                              intro a ha
                              have hg := G2.out.size
                              rcases d3 with h | h
                              · exact E2.out a (by rw [← h]; exact ha)
                              · have h2 := h a ha; omega
                            have G3 := Lib.hid g3
                            have O3 := Lib.hid o3
                            have E3 := Lib.hid e3
                            have hn4 : Hid (n3 = (rs.take 0 ++ ⟨⟨m0, m1, m2, m3, m4, m5⟩, tu, pn, at_, st⟩ :: rs.drop 0).length) := Lib.hid (by have h1 := hn1.out; have h2 := hn2.out; have h3 := hn3.out; have h4 := QT.out.len; simp; omega)
                            clear g3 o3 e3 d3 f3
                            refine hK.out _ _ ?_ (fun hHeld => ?_)
                            · ((try dsimp only); first | exact SF.out _ ((Fr.refl _ wq).alloc _).drew | exact SF.out _ (((Fr.refl _ wq).alloc _).alloc _).drew | exact SF.out _ G3.out | exact SF.out _ G2.out | exact SF.out _ (G1.out.alloc _) | exact SF.out _ G1.out)
                            · skip
                              clear hK K
                              (try simp only [Act.put, List.setIfInBounds_toArray, List.set_cons_zero, List.set_cons_succ])
                              apply wpAnyH_take (i := 19)
                              · rfl
                              · kernel_rfl
                              · kernel_rfl
                              · kernel_rfl
                              · exact fun _ _ _ h => h
                              · (refine Or.inl ⟨by rfl, ?_⟩; intro w hSw; (try dsimp only at hSw); go_simp; try with_reducible rfl)
                              · assumption
                              simp only [Act.put, List.setIfInBounds_toArray, List.set_cons_zero, List.set_cons_succ]
                              apply wpAnyH_take (i := 20)
                              · rfl
                              · kernel_rfl
                              · kernel_rfl
                              · kernel_rfl
                              · exact fun _ _ _ h => h
                              · (refine Or.inl ⟨by rfl, ?_⟩; intro w hSw; (try dsimp only at hSw); go_simp; try with_reducible rfl)
                              · assumption
                              simp only [Act.put, List.setIfInBounds_toArray, List.set_cons_zero, List.set_cons_succ]
                              refine wpAnyH_done (by kernel_rfl) ?_ _
                              change Oper.wp _ _ _ _ _ _
                              go_simp
                              go_wp2_with fail
                              all_goals go_ret
                              all_goals exact add15_end (P := fun r W => r = .returned (.int .i64 c) ∧ Res15 w rb ao room life A' W) QT.out G3.out O3.out E3.out hn4.out HA.out HE.out
              · skip
                go_simp
                refine hK.out _ _ ?_ (fun hHeld => ?_)
                · ((try dsimp only); first | exact SF.out _ ((Fr.refl _ wq).alloc _).drew | exact SF.out _ (((Fr.refl _ wq).alloc _).alloc _).drew | exact SF.out _ G3.out | exact SF.out _ G2.out | exact SF.out _ (G1.out.alloc _) | exact SF.out _ G1.out)
                · skip
                  clear hK K
                  (try simp only [Act.put, List.setIfInBounds_toArray, List.set_cons_zero, List.set_cons_succ])
                  refine wpAnyH_ready (rs := [8]) (by kernel_rfl) (by simp) (AllReadyH.cons rfl (fun K hK => ?_) AllReadyH.nil)
                  · skip
                    refine step_append_15 (.tmp 88) (.tmp 94) (by rfl) (by rfl) (by rfl) (by rfl) (xs := []) (ys := rs.take 0)
                      (by first | exact OE.out | exact OE1.out | exact OE2.out)
                      (HS1.out _ (by first | exact ((Fr.refl _ wq).alloc _).drew | exact (((Fr.refl _ wq).alloc _).alloc _).drew))
                      (by rw [List.length_take, ← QT.out.len]; omega) (by omega) (by omega) ?_
                    intro ao1 cap1 w5 n1 hn1 o1 f1 d1
                    have g1 : Fr (Up wq.heap.size) wq w5 := by
                      first
                        | exact (((Fr.refl _ wq).alloc _).drew).then f1 (by rintro i hi ⟨x, hx, rfl⟩; cases hx; simp only [Up]; omega)
                        | exact ((((Fr.refl _ wq).alloc _).alloc _).drew).then f1 (by rintro i hi ⟨x, hx, rfl⟩; cases hx; simp only [Up]; omega)
                    have e1 : ∀ a, ao1 = some a → wq.heap.size ≤ a.block := by
                      intro a ha
                      rcases d1 with h | h
                      · rw [h] at ha; cases ha; simp only; omega
                      · have h2 := h a ha; simp at h2; omega
                    have G1 := Lib.hid g1
                    have O1 := Lib.hid o1
                    have E1 := Lib.hid e1
                    have D1 := Lib.hid f1
                    clear g1 o1 e1 d1 f1
                    refine hK.out _ _ ?_ (fun hHeld => ?_)
                    · ((try dsimp only); first | exact SF.out _ ((Fr.refl _ wq).alloc _).drew | exact SF.out _ (((Fr.refl _ wq).alloc _).alloc _).drew | exact SF.out _ G3.out | exact SF.out _ G2.out | exact SF.out _ (G1.out.alloc _) | exact SF.out _ G1.out)
                    · skip
                      clear hK K
                      (try simp only [Act.put, List.setIfInBounds_toArray, List.set_cons_zero, List.set_cons_succ])
                      refine wpAnyH_ready (rs := [11]) (by kernel_rfl) (by simp) (AllReadyH.cons rfl (fun K hK => ?_) AllReadyH.nil)
                      · skip
                        refine step_append_15 (.tmp 95) (.tmp 97) (by rfl) (by rfl) (by rfl) (by rfl) (xs := [] ++ rs.take 0) (ys := [⟨⟨m0, m1, m2, m3, m4, m5⟩, tu, pn, at_, st⟩])
                          (by first | exact O1.out | exact O1.out.no ((Fr.refl No _).alloc _))
                          (by first | exact (Own.made (w := w5) (e := 62) (size := 10) #[.int .u8 (m0.toNat : Int), .int .u8 (m1.toNat : Int), .int .u8 (m2.toNat : Int), .int .u8 (m3.toNat : Int), .int .u8 (m4.toNat : Int), .int .u8 (m5.toNat : Int), .bool tu, .int .i64 pn, .int .u64 at_, .bool st] 1 rfl (by decide)).sl | exact OB.out.sl.fr D1.out (by intro a ha ⟨x, hx, hxb⟩; cases ha; cases hx; simp only at hxb; omega) | exact OC.out.sl.fr D1.out (by intro a ha ⟨x, hx, hxb⟩; cases ha; cases hx; simp at hxb))
                          (by rfl) (by have := hn1.out; omega) (by omega) ?_
                        intro ao2 cap2 w6 n2 hn2 o2 f2 d2
                        have g2 : Fr (Up wq.heap.size) wq w6 := by
                          first
                            | exact G1.out.then f2 (by rintro i hi ⟨x, hx, rfl⟩; exact E1.out x hx)
                            | exact (G1.out.alloc _).then f2 (by rintro i hi ⟨x, hx, rfl⟩; exact E1.out x hx)
                        have e2 : ∀ a, ao2 = some a → wq.heap.size ≤ a.block := by
                          intro a ha
                          have hg := G1.out.size
                          rcases d2 with h | h
                          · exact E1.out a (by rw [← h]; exact ha)
                          · have h2 := h a ha; first | omega | (simp at h2; omega)
                        have G2 := Lib.hid g2
                        have O2 := Lib.hid o2
                        have E2 := Lib.hid e2
                        clear g2 o2 e2 d2 f2
                        refine hK.out _ _ ?_ (fun hHeld => ?_)
                        · ((try dsimp only); first | exact SF.out _ ((Fr.refl _ wq).alloc _).drew | exact SF.out _ (((Fr.refl _ wq).alloc _).alloc _).drew | exact SF.out _ G3.out | exact SF.out _ G2.out | exact SF.out _ (G1.out.alloc _) | exact SF.out _ G1.out)
                        · skip
                          clear hK K
                          (try simp only [Act.put, List.setIfInBounds_toArray, List.set_cons_zero, List.set_cons_succ])
                          refine wpAnyH_ready (rs := [18]) (by kernel_rfl) (by simp) (AllReadyH.cons rfl (fun K hK => ?_) AllReadyH.nil)
                          · skip
                            refine step_append_15 (.tmp 98) (.tmp 104) (by rfl) (by rfl) (by rfl) (by rfl) (xs := [] ++ rs.take 0 ++ [⟨⟨m0, m1, m2, m3, m4, m5⟩, tu, pn, at_, st⟩]) (ys := rs.drop 0)
                              O2.out (HS2.out _ G2.out) (by rw [List.length_drop, ← QT.out.len]) (by have := hn1.out; have := hn2.out; omega) (by omega) ?_
                            intro ao3 cap3 w7 n3 hn3 o3 f3 d3
                            have g3 : Fr (Up wq.heap.size) wq w7 := G2.out.then f3 (by rintro i hi ⟨x, hx, rfl⟩; exact E2.out x hx)
                            have e3 : ∀ a, ao3 = some a → wq.heap.size ≤ a.block := by
                              intro a ha
                              have hg := G2.out.size
                              rcases d3 with h | h
                              · exact E2.out a (by rw [← h]; exact ha)
                              · have h2 := h a ha; omega
                            have G3 := Lib.hid g3
                            have O3 := Lib.hid o3
                            have E3 := Lib.hid e3
                            have hn4 : Hid (n3 = (rs.take 0 ++ ⟨⟨m0, m1, m2, m3, m4, m5⟩, tu, pn, at_, st⟩ :: rs.drop 0).length) := Lib.hid (by have h1 := hn1.out; have h2 := hn2.out; have h3 := hn3.out; have h4 := QT.out.len; simp; omega)
                            clear g3 o3 e3 d3 f3
                            refine hK.out _ _ ?_ (fun hHeld => ?_)
                            · ((try dsimp only); first | exact SF.out _ ((Fr.refl _ wq).alloc _).drew | exact SF.out _ (((Fr.refl _ wq).alloc _).alloc _).drew | exact SF.out _ G3.out | exact SF.out _ G2.out | exact SF.out _ (G1.out.alloc _) | exact SF.out _ G1.out)
                            · skip
                              clear hK K
                              (try simp only [Act.put, List.setIfInBounds_toArray, List.set_cons_zero, List.set_cons_succ])
                              apply wpAnyH_take (i := 19)
                              · rfl
                              · kernel_rfl
                              · kernel_rfl
                              · kernel_rfl
                              · exact fun _ _ _ h => h
                              · (refine Or.inl ⟨by rfl, ?_⟩; intro w hSw; (try dsimp only at hSw); go_simp; try with_reducible rfl)
                              · assumption
                              simp only [Act.put, List.setIfInBounds_toArray, List.set_cons_zero, List.set_cons_succ]
                              apply wpAnyH_take (i := 20)
                              · rfl
                              · kernel_rfl
                              · kernel_rfl
                              · kernel_rfl
                              · exact fun _ _ _ h => h
                              · (refine Or.inl ⟨by rfl, ?_⟩; intro w hSw; (try dsimp only at hSw); go_simp; try with_reducible rfl)
                              · assumption
                              simp only [Act.put, List.setIfInBounds_toArray, List.set_cons_zero, List.set_cons_succ]
                              refine wpAnyH_done (by kernel_rfl) ?_ _
                              change Oper.wp _ _ _ _ _ _
                              go_simp
                              go_wp2_with fail
                              all_goals go_ret
                              all_goals exact add15_end (P := fun r W => r = .returned (.int .i64 c) ∧ Res15 w rb ao room life A' W) QT.out G3.out O3.out E3.out hn4.out HA.out HE.out
          · skip
            go_simp
            refine hK.out _ _ ?_ (fun hHeld => ?_)
            · ((try dsimp only); first | exact SF.out _ ((Fr.refl _ wq).alloc _).drew | exact SF.out _ (((Fr.refl _ wq).alloc _).alloc _).drew | exact SF.out _ G3.out | exact SF.out _ G2.out | exact SF.out _ (G1.out.alloc _) | exact SF.out _ G1.out)
            · skip
              clear hK K
              (try simp only [Act.put, List.setIfInBounds_toArray, List.set_cons_zero, List.set_cons_succ])
              refine wpAnyH_ready (rs := [1]) (by kernel_rfl) (by simp) (AllReadyH.cons rfl (fun K hK => ?_) AllReadyH.nil)
              · skip
                go_simp
                refine hK.out _ _ ?_ (fun hHeld => ?_)
                · ((try dsimp only); first | exact SF.out _ ((Fr.refl _ wq).alloc _).drew | exact SF.out _ (((Fr.refl _ wq).alloc _).alloc _).drew | exact SF.out _ G3.out | exact SF.out _ G2.out | exact SF.out _ (G1.out.alloc _) | exact SF.out _ G1.out)
                · skip
                  clear hK K
                  (try simp only [Act.put, List.setIfInBounds_toArray, List.set_cons_zero, List.set_cons_succ])
                  refine wpAnyH_ready (rs := [8]) (by kernel_rfl) (by simp) (AllReadyH.cons rfl (fun K hK => ?_) AllReadyH.nil)
                  · skip
                    refine step_append_15 (.tmp 88) (.tmp 94) (by rfl) (by rfl) (by rfl) (by rfl) (xs := []) (ys := rs.take 0)
                      (by first | exact OE.out | exact OE1.out | exact OE2.out)
                      (HS1.out _ (by first | exact ((Fr.refl _ wq).alloc _).drew | exact (((Fr.refl _ wq).alloc _).alloc _).drew))
                      (by rw [List.length_take, ← QT.out.len]; omega) (by omega) (by omega) ?_
                    intro ao1 cap1 w5 n1 hn1 o1 f1 d1
                    have g1 : Fr (Up wq.heap.size) wq w5 := by
                      first
                        | exact (((Fr.refl _ wq).alloc _).drew).then f1 (by rintro i hi ⟨x, hx, rfl⟩; cases hx; simp only [Up]; omega)
                        | exact ((((Fr.refl _ wq).alloc _).alloc _).drew).then f1 (by rintro i hi ⟨x, hx, rfl⟩; cases hx; simp only [Up]; omega)
                    have e1 : ∀ a, ao1 = some a → wq.heap.size ≤ a.block := by
                      intro a ha
                      rcases d1 with h | h
                      · rw [h] at ha; cases ha; simp only; omega
                      · have h2 := h a ha; simp at h2; omega
                    have G1 := Lib.hid g1
                    have O1 := Lib.hid o1
                    have E1 := Lib.hid e1
                    have D1 := Lib.hid f1
                    clear g1 o1 e1 d1 f1
                    refine hK.out _ _ ?_ (fun hHeld => ?_)
                    · ((try dsimp only); first | exact SF.out _ ((Fr.refl _ wq).alloc _).drew | exact SF.out _ (((Fr.refl _ wq).alloc _).alloc _).drew | exact SF.out _ G3.out | exact SF.out _ G2.out | exact SF.out _ (G1.out.alloc _) | exact SF.out _ G1.out)
                    · skip
                      clear hK K
                      (try simp only [Act.put, List.setIfInBounds_toArray, List.set_cons_zero, List.set_cons_succ])
                      refine wpAnyH_ready (rs := [11]) (by kernel_rfl) (by simp) (AllReadyH.cons rfl (fun K hK => ?_) AllReadyH.nil)
                      · skip
                        refine step_append_15 (.tmp 95) (.tmp 97) (by rfl) (by rfl) (by rfl) (by rfl) (xs := [] ++ rs.take 0) (ys := [⟨⟨m0, m1, m2, m3, m4, m5⟩, tu, pn, at_, st⟩])
                          (by first | exact O1.out | exact O1.out.no ((Fr.refl No _).alloc _))
                          (by first | exact (Own.made (w := w5) (e := 62) (size := 10) #[.int .u8 (m0.toNat : Int), .int .u8 (m1.toNat : Int), .int .u8 (m2.toNat : Int), .int .u8 (m3.toNat : Int), .int .u8 (m4.toNat : Int), .int .u8 (m5.toNat : Int), .bool tu, .int .i64 pn, .int .u64 at_, .bool st] 1 rfl (by decide)).sl | exact OB.out.sl.fr D1.out (by intro a ha ⟨x, hx, hxb⟩; cases ha; cases hx; simp only at hxb; omega) | exact OC.out.sl.fr D1.out (by intro a ha ⟨x, hx, hxb⟩; cases ha; cases hx; simp at hxb))
                          (by rfl) (by have := hn1.out; omega) (by omega) ?_
                        intro ao2 cap2 w6 n2 hn2 o2 f2 d2
                        have g2 : Fr (Up wq.heap.size) wq w6 := by
                          first
                            | exact G1.out.then f2 (by rintro i hi ⟨x, hx, rfl⟩; exact E1.out x hx)
                            | exact (G1.out.alloc _).then f2 (by rintro i hi ⟨x, hx, rfl⟩; exact E1.out x hx)
                        have e2 : ∀ a, ao2 = some a → wq.heap.size ≤ a.block := by
                          intro a ha
                          have hg := G1.out.size
                          rcases d2 with h | h
                          · exact E1.out a (by rw [← h]; exact ha)
                          · have h2 := h a ha; first | omega | (simp at h2; omega)
                        have G2 := Lib.hid g2
                        have O2 := Lib.hid o2
                        have E2 := Lib.hid e2
                        clear g2 o2 e2 d2 f2
                        refine hK.out _ _ ?_ (fun hHeld => ?_)
                        · ((try dsimp only); first | exact SF.out _ ((Fr.refl _ wq).alloc _).drew | exact SF.out _ (((Fr.refl _ wq).alloc _).alloc _).drew | exact SF.out _ G3.out | exact SF.out _ G2.out | exact SF.out _ (G1.out.alloc _) | exact SF.out _ G1.out)
                        · skip
                          clear hK K
                          (try simp only [Act.put, List.setIfInBounds_toArray, List.set_cons_zero, List.set_cons_succ])
                          refine wpAnyH_ready (rs := [18]) (by kernel_rfl) (by simp) (AllReadyH.cons rfl (fun K hK => ?_) AllReadyH.nil)
                          · skip
                            refine step_append_15 (.tmp 98) (.tmp 104) (by rfl) (by rfl) (by rfl) (by rfl) (xs := [] ++ rs.take 0 ++ [⟨⟨m0, m1, m2, m3, m4, m5⟩, tu, pn, at_, st⟩]) (ys := rs.drop 0)
                              O2.out (HS2.out _ G2.out) (by rw [List.length_drop, ← QT.out.len]) (by have := hn1.out; have := hn2.out; omega) (by omega) ?_
                            intro ao3 cap3 w7 n3 hn3 o3 f3 d3
                            have g3 : Fr (Up wq.heap.size) wq w7 := G2.out.then f3 (by rintro i hi ⟨x, hx, rfl⟩; exact E2.out x hx)
                            have e3 : ∀ a, ao3 = some a → wq.heap.size ≤ a.block := by
                              intro a ha
                              have hg := G2.out.size
                              rcases d3 with h | h
                              · exact E2.out a (by rw [← h]; exact ha)
                              · have h2 := h a ha; omega
                            have G3 := Lib.hid g3
                            have O3 := Lib.hid o3
                            have E3 := Lib.hid e3
                            have hn4 : Hid (n3 = (rs.take 0 ++ ⟨⟨m0, m1, m2, m3, m4, m5⟩, tu, pn, at_, st⟩ :: rs.drop 0).length) := Lib.hid (by have h1 := hn1.out; have h2 := hn2.out; have h3 := hn3.out; have h4 := QT.out.len; simp; omega)
                            clear g3 o3 e3 d3 f3
                            refine hK.out _ _ ?_ (fun hHeld => ?_)
                            · ((try dsimp only); first | exact SF.out _ ((Fr.refl _ wq).alloc _).drew | exact SF.out _ (((Fr.refl _ wq).alloc _).alloc _).drew | exact SF.out _ G3.out | exact SF.out _ G2.out | exact SF.out _ (G1.out.alloc _) | exact SF.out _ G1.out)
                            · skip
                              clear hK K
                              (try simp only [Act.put, List.setIfInBounds_toArray, List.set_cons_zero, List.set_cons_succ])
                              apply wpAnyH_take (i := 19)
                              · rfl
                              · kernel_rfl
                              · kernel_rfl
                              · kernel_rfl
                              · exact fun _ _ _ h => h
                              · (refine Or.inl ⟨by rfl, ?_⟩; intro w hSw; (try dsimp only at hSw); go_simp; try with_reducible rfl)
                              · assumption
                              simp only [Act.put, List.setIfInBounds_toArray, List.set_cons_zero, List.set_cons_succ]
                              apply wpAnyH_take (i := 20)
                              · rfl
                              · kernel_rfl
                              · kernel_rfl
                              · kernel_rfl
                              · exact fun _ _ _ h => h
                              · (refine Or.inl ⟨by rfl, ?_⟩; intro w hSw; (try dsimp only at hSw); go_simp; try with_reducible rfl)
                              · assumption
                              simp only [Act.put, List.setIfInBounds_toArray, List.set_cons_zero, List.set_cons_succ]
                              refine wpAnyH_done (by kernel_rfl) ?_ _
                              change Oper.wp _ _ _ _ _ _
                              go_simp
                              go_wp2_with fail
                              all_goals go_ret
                              all_goals exact add15_end (P := fun r W => r = .returned (.int .i64 c) ∧ Res15 w rb ao room life A' W) QT.out G3.out O3.out E3.out hn4.out HA.out HE.out
      | some g =>
        obtain ⟨hg0, -⟩ := QT.out.own.row g rfl
        have hgl := QT.out.own.lt g rfl
        obtain ⟨gb, goff, gsp⟩ := g
        cases hg0
        have HS1 : Hid (∀ W, Fr (Up wq.heap.size) wq W → Sl W (some ⟨gb, 0, none⟩) k cap ((rs.take k).flatMap encE)) := Lib.hid (fun W f => (QT.out.own.sl.uptoE hk).fr f (fun a ha => by cases ha; simp only [Up]; simp only at hgl; omega))
        have HS2 : Hid (∀ W, Fr (Up wq.heap.size) wq W → Sl W (if cap = k then some ⟨gb, 0, none⟩ else some ⟨gb, k * 10, none⟩) (n - k) (cap - k) ((rs.drop k).flatMap encE)) := Lib.hid (fun W f => (Sl.fromE QT.out.len QT.out.own.sl hk).fr f (fun a ha => by split at ha <;> cases ha <;> simp only [Up] <;> simp only at hgl <;> omega))
        have OE := Lib.hid ((Own.made (w := wq) (e := 62) (size := 10) #[] 0 rfl (by decide)).no (Fr.refl No _).drew)
        have OE1 := Lib.hid ((Own.made (w := wq) (e := 62) (size := 10) #[] 0 rfl (by decide)).no ((Fr.refl No _).alloc (.cells #[.int .u8 (m0.toNat : Int), .int .u8 (m1.toNat : Int), .int .u8 (m2.toNat : Int), .int .u8 (m3.toNat : Int), .int .u8 (m4.toNat : Int), .int .u8 (m5.toNat : Int), .bool tu, .int .i64 pn, .int .u64 at_, .bool st] 62)).drew)
        have OE2 := Lib.hid ((Own.made (w := wq.alloc (.cells #[.int .u8 (m0.toNat : Int), .int .u8 (m1.toNat : Int), .int .u8 (m2.toNat : Int), .int .u8 (m3.toNat : Int), .int .u8 (m4.toNat : Int), .int .u8 (m5.toNat : Int), .bool tu, .int .i64 pn, .int .u64 at_, .bool st] 62)) (e := 62) (size := 10) #[] 0 rfl (by decide)).no (Fr.refl No _).drew)
        have OB := Lib.hid ((((Own.made (w := wq.alloc (.cells #[] 62)) (e := 62) (size := 10) #[.int .u8 (m0.toNat : Int), .int .u8 (m1.toNat : Int), .int .u8 (m2.toNat : Int), .int .u8 (m3.toNat : Int), .int .u8 (m4.toNat : Int), .int .u8 (m5.toNat : Int), .bool tu, .int .i64 pn, .int .u64 at_, .bool st] 1 rfl (by decide))).no (Fr.refl No _).drew))
        have OC := Lib.hid ((Own.made (w := wq) (e := 62) (size := 10) #[.int .u8 (m0.toNat : Int), .int .u8 (m1.toNat : Int), .int .u8 (m2.toNat : Int), .int .u8 (m3.toNat : Int), .int .u8 (m4.toNat : Int), .int .u8 (m5.toNat : Int), .bool tu, .int .i64 pn, .int .u64 at_, .bool st] 1 rfl (by decide)).no ((Fr.refl No _).alloc (.cells #[] 62)).drew)
        rw [show (wq.alloc (.cells #[] 62)).heap.size = wq.heap.size + 1 from by simp] at OB
        rw [show (wq.alloc (.cells #[.int .u8 (m0.toNat : Int), .int .u8 (m1.toNat : Int), .int .u8 (m2.toNat : Int), .int .u8 (m3.toNat : Int), .int .u8 (m4.toNat : Int), .int .u8 (m5.toNat : Int), .bool tu, .int .i64 pn, .int .u64 at_, .bool st] 62)).heap.size = wq.heap.size + 1 from by simp] at OE2
        have SF : Hid (∀ w', Fr (Up wq.heap.size) wq w' → w'.cell? ⟨rb, 2, none⟩ = some (.slice (some ⟨gb, 0, none⟩) n cap) ∧ w'.frozen? ⟨rb, 2, none⟩ = false ∧ w'.cell? ⟨bx, 0, none⟩ = some (.int .u8 (m0.toNat : Int)) ∧ w'.cell? ⟨bx, 1, none⟩ = some (.int .u8 (m1.toNat : Int)) ∧ w'.cell? ⟨bx, 2, none⟩ = some (.int .u8 (m2.toNat : Int)) ∧ w'.cell? ⟨bx, 3, none⟩ = some (.int .u8 (m3.toNat : Int)) ∧ w'.cell? ⟨bx, 4, none⟩ = some (.int .u8 (m4.toNat : Int)) ∧ w'.cell? ⟨bx, 5, none⟩ = some (.int .u8 (m5.toNat : Int)) ∧ w'.cell? ⟨bx, 6, none⟩ = some (.bool tu) ∧ w'.cell? ⟨bx, 7, none⟩ = some (.int .i64 pn) ∧ w'.cell? ⟨bx, 8, none⟩ = some (.int .u64 at_) ∧ w'.cell? ⟨bx, 9, none⟩ = some (.bool st)) := Lib.hid (by
          intro w' f
          have hlb := lt_of_heap QB.out
          have h1 := f.heap QT.out.box (by simp only [Up]; omega)
          have h2 := f.heap QB.out (by simp only [Up]; omega)
          exact ⟨by rw [cell_of_row w' rb 2 _ _ _ h1]; rfl, frozen_of_row w' rb 2 _ _ h1, cells10 h2⟩)
        go_wp2_with fail
        refine wp_region_tail (S := (fun w' => w'.cell? ⟨rb, 2, none⟩ = some (.slice (some ⟨gb, 0, none⟩) n cap) ∧ w'.frozen? ⟨rb, 2, none⟩ = false ∧ w'.cell? ⟨bx, 0, none⟩ = some (.int .u8 (m0.toNat : Int)) ∧ w'.cell? ⟨bx, 1, none⟩ = some (.int .u8 (m1.toNat : Int)) ∧ w'.cell? ⟨bx, 2, none⟩ = some (.int .u8 (m2.toNat : Int)) ∧ w'.cell? ⟨bx, 3, none⟩ = some (.int .u8 (m3.toNat : Int)) ∧ w'.cell? ⟨bx, 4, none⟩ = some (.int .u8 (m4.toNat : Int)) ∧ w'.cell? ⟨bx, 5, none⟩ = some (.int .u8 (m5.toNat : Int)) ∧ w'.cell? ⟨bx, 6, none⟩ = some (.bool tu) ∧ w'.cell? ⟨bx, 7, none⟩ = some (.int .i64 pn) ∧ w'.cell? ⟨bx, 8, none⟩ = some (.int .u64 at_) ∧ w'.cell? ⟨bx, 9, none⟩ = some (.bool st))) rfl (by kernel_rfl) (by kernel_rfl) ?_ (fun hHeld => ?_)
        · ((try dsimp only); exact SF.out _ (Fr.refl _ wq).drew)
        · skip
          simp only [List.dropLast_cons_cons, List.dropLast_singleton, List.length_cons, List.length_nil, Nat.zero_add, Nat.reduceAdd, List.replicate]
          apply wpAnyH_take (i := 0)
          · rfl
          · kernel_rfl
          · kernel_rfl
          · kernel_rfl
          · exact fun _ _ _ h => h
          · (refine Or.inl ⟨by rfl, ?_⟩; intro w hSw; (try dsimp only at hSw); go_simp; try with_reducible rfl)
          · assumption
          simp only [Act.put, List.setIfInBounds_toArray, List.set_cons_zero, List.set_cons_succ]
          apply wpAnyH_take (i := 2)
          · rfl
          · kernel_rfl
          · kernel_rfl
          · kernel_rfl
          · exact fun _ _ _ h => h
          · (refine Or.inl ⟨by rfl, ?_⟩; intro w hSw; (try dsimp only at hSw); go_simp; try with_reducible rfl)
          · assumption
          simp only [Act.put, List.setIfInBounds_toArray, List.set_cons_zero, List.set_cons_succ]
          apply wpAnyH_take (i := 3)
          · rfl
          · kernel_rfl
          · kernel_rfl
          · kernel_rfl
          · exact fun _ _ _ h => h
          · (refine Or.inl ⟨by rfl, ?_⟩; intro w hSw; (try dsimp only at hSw); go_simp; try with_reducible rfl)
          · assumption
          simp only [Act.put, List.setIfInBounds_toArray, List.set_cons_zero, List.set_cons_succ]
          apply wpAnyH_take (i := 4)
          · rfl
          · kernel_rfl
          · kernel_rfl
          · kernel_rfl
          · exact fun _ _ _ h => h
          · (refine Or.inl ⟨by rfl, ?_⟩; intro w hSw; (try dsimp only at hSw); go_simp; try with_reducible rfl)
          · assumption
          simp only [Act.put, List.setIfInBounds_toArray, List.set_cons_zero, List.set_cons_succ]
          apply wpAnyH_take (i := 5)
          · rfl
          · kernel_rfl
          · kernel_rfl
          · kernel_rfl
          · exact fun _ _ _ h => h
          · (refine Or.inl ⟨by rfl, ?_⟩; intro w hSw; (try dsimp only at hSw); go_simp; try with_reducible rfl)
          · assumption
          simp only [Act.put, List.setIfInBounds_toArray, List.set_cons_zero, List.set_cons_succ]
          apply wpAnyH_take (i := 6)
          · rfl
          · kernel_rfl
          · kernel_rfl
          · kernel_rfl
          · exact fun _ _ _ h => h
          · (refine Or.inl ⟨by rfl, ?_⟩; intro w hSw; (try dsimp only at hSw); go_simp; try with_reducible rfl)
          · assumption
          simp only [Act.put, List.setIfInBounds_toArray, List.set_cons_zero, List.set_cons_succ]
          apply wpAnyH_take (i := 7)
          · rfl
          · kernel_rfl
          · kernel_rfl
          · kernel_rfl
          · exact fun _ _ _ h => h
          · (refine Or.inl ⟨by rfl, ?_⟩; intro w hSw; (try dsimp only at hSw); go_simp; try with_reducible rfl)
          · assumption
          simp only [Act.put, List.setIfInBounds_toArray, List.set_cons_zero, List.set_cons_succ]
          apply wpAnyH_take (i := 9)
          · rfl
          · kernel_rfl
          · kernel_rfl
          · kernel_rfl
          · exact fun _ _ _ h => h
          · (refine Or.inl ⟨by rfl, ?_⟩; intro w hSw; (try dsimp only at hSw); go_simp; try with_reducible rfl)
          · assumption
          simp only [Act.put, List.setIfInBounds_toArray, List.set_cons_zero, List.set_cons_succ]
          apply wpAnyH_take (i := 12)
          · rfl
          · kernel_rfl
          · kernel_rfl
          · kernel_rfl
          · exact fun _ _ _ h => h
          · (refine Or.inl ⟨by rfl, ?_⟩; intro w hSw; (try dsimp only at hSw); go_simp; try with_reducible rfl)
          · assumption
          simp only [Act.put, List.setIfInBounds_toArray, List.set_cons_zero, List.set_cons_succ]
          apply wpAnyH_take (i := 13)
          · rfl
          · kernel_rfl
          · kernel_rfl
          · kernel_rfl
          · exact fun _ _ _ h => h
          · (refine Or.inl ⟨by rfl, ?_⟩; intro w hSw; (try dsimp only at hSw); go_simp; try with_reducible rfl)
          · assumption
          simp only [Act.put, List.setIfInBounds_toArray, List.set_cons_zero, List.set_cons_succ]
          apply wpAnyH_take (i := 14)
          · rfl
          · kernel_rfl
          · kernel_rfl
          · kernel_rfl
          · exact fun _ _ _ h => h
          · (refine Or.inl ⟨by rfl, ?_⟩; intro w hSw; (try dsimp only at hSw); go_simp; try with_reducible rfl)
          · assumption
          simp only [Act.put, List.setIfInBounds_toArray, List.set_cons_zero, List.set_cons_succ]
          apply wpAnyH_take (i := 15)
          · rfl
          · kernel_rfl
          · kernel_rfl
          · kernel_rfl
          · exact fun _ _ _ h => h
          · (refine Or.inl ⟨by rfl, ?_⟩; intro w hSw; (try dsimp only at hSw); go_simp; try with_reducible rfl)
          · assumption
          simp only [Act.put, List.setIfInBounds_toArray, List.set_cons_zero, List.set_cons_succ]
          apply wpAnyH_take (i := 16)
          · rfl
          · kernel_rfl
          · kernel_rfl
          · kernel_rfl
          · exact fun _ _ _ h => h
          · (refine Or.inl ⟨by rfl, ?_⟩; intro w hSw; (try dsimp only at hSw); go_simp; try with_reducible rfl)
          · assumption
          simp only [Act.put, List.setIfInBounds_toArray, List.set_cons_zero, List.set_cons_succ]
          apply wpAnyH_take (i := 17)
          · rfl
          · kernel_rfl
          · kernel_rfl
          · kernel_rfl
          · exact fun _ _ _ h => h
          · (refine Or.inl ⟨by rfl, ?_⟩; intro w hSw; (try dsimp only at hSw); go_simp; try with_reducible rfl)
          · assumption
          simp only [Act.put, List.setIfInBounds_toArray, List.set_cons_zero, List.set_cons_succ]
          refine wpAnyH_ready (rs := [1, 10]) (by kernel_rfl) (by simp) (AllReadyH.cons rfl (fun K hK => ?_) (AllReadyH.cons rfl (fun K hK => ?_) AllReadyH.nil))
          · skip
            go_simp
            refine hK.out _ _ ?_ (fun hHeld => ?_)
            · ((try dsimp only); first | exact SF.out _ ((Fr.refl _ wq).alloc _).drew | exact SF.out _ (((Fr.refl _ wq).alloc _).alloc _).drew | exact SF.out _ G3.out | exact SF.out _ G2.out | exact SF.out _ (G1.out.alloc _) | exact SF.out _ G1.out)
            · skip
              clear hK K
              (try simp only [Act.put, List.setIfInBounds_toArray, List.set_cons_zero, List.set_cons_succ])
              refine wpAnyH_ready (rs := [8, 10]) (by kernel_rfl) (by simp) (AllReadyH.cons rfl (fun K hK => ?_) (AllReadyH.cons rfl (fun K hK => ?_) AllReadyH.nil))
              · skip
                refine step_append_15 (.tmp 88) (.tmp 94) (by rfl) (by rfl) (by rfl) (by rfl) (xs := []) (ys := rs.take k)
                  (by first | exact OE.out | exact OE1.out | exact OE2.out)
                  (HS1.out _ (by first | exact ((Fr.refl _ wq).alloc _).drew | exact (((Fr.refl _ wq).alloc _).alloc _).drew))
                  (by rw [List.length_take, ← QT.out.len]; omega) (by omega) (by omega) ?_
                intro ao1 cap1 w5 n1 hn1 o1 f1 d1
                have g1 : Fr (Up wq.heap.size) wq w5 := by
                  first
                    | exact (((Fr.refl _ wq).alloc _).drew).then f1 (by rintro i hi ⟨x, hx, rfl⟩; cases hx; simp only [Up]; omega)
                    | exact ((((Fr.refl _ wq).alloc _).alloc _).drew).then f1 (by rintro i hi ⟨x, hx, rfl⟩; cases hx; simp only [Up]; omega)
                have e1 : ∀ a, ao1 = some a → wq.heap.size ≤ a.block := by
                  intro a ha
                  rcases d1 with h | h
                  · rw [h] at ha; cases ha; simp only; omega
                  · have h2 := h a ha; simp at h2; omega
                have G1 := Lib.hid g1
                have O1 := Lib.hid o1
                have E1 := Lib.hid e1
                have D1 := Lib.hid f1
                clear g1 o1 e1 d1 f1
                refine hK.out _ _ ?_ (fun hHeld => ?_)
                · ((try dsimp only); first | exact SF.out _ ((Fr.refl _ wq).alloc _).drew | exact SF.out _ (((Fr.refl _ wq).alloc _).alloc _).drew | exact SF.out _ G3.out | exact SF.out _ G2.out | exact SF.out _ (G1.out.alloc _) | exact SF.out _ G1.out)
                · skip
                  clear hK K
                  (try simp only [Act.put, List.setIfInBounds_toArray, List.set_cons_zero, List.set_cons_succ])
                  refine wpAnyH_ready (rs := [10]) (by kernel_rfl) (by simp) (AllReadyH.cons rfl (fun K hK => ?_) AllReadyH.nil)
                  · skip
                    go_simp
                    refine hK.out _ _ ?_ (fun hHeld => ?_)
                    · ((try dsimp only); first | exact SF.out _ ((Fr.refl _ wq).alloc _).drew | exact SF.out _ (((Fr.refl _ wq).alloc _).alloc _).drew | exact SF.out _ G3.out | exact SF.out _ G2.out | exact SF.out _ (G1.out.alloc _) | exact SF.out _ G1.out)
                    · skip
                      clear hK K
                      (try simp only [Act.put, List.setIfInBounds_toArray, List.set_cons_zero, List.set_cons_succ])
                      refine wpAnyH_ready (rs := [11]) (by kernel_rfl) (by simp) (AllReadyH.cons rfl (fun K hK => ?_) AllReadyH.nil)
                      · skip
                        refine step_append_15 (.tmp 95) (.tmp 97) (by rfl) (by rfl) (by rfl) (by rfl) (xs := [] ++ rs.take k) (ys := [⟨⟨m0, m1, m2, m3, m4, m5⟩, tu, pn, at_, st⟩])
                          (by first | exact O1.out | exact O1.out.no ((Fr.refl No _).alloc _))
                          (by first | exact (Own.made (w := w5) (e := 62) (size := 10) #[.int .u8 (m0.toNat : Int), .int .u8 (m1.toNat : Int), .int .u8 (m2.toNat : Int), .int .u8 (m3.toNat : Int), .int .u8 (m4.toNat : Int), .int .u8 (m5.toNat : Int), .bool tu, .int .i64 pn, .int .u64 at_, .bool st] 1 rfl (by decide)).sl | exact OB.out.sl.fr D1.out (by intro a ha ⟨x, hx, hxb⟩; cases ha; cases hx; simp only at hxb; omega) | exact OC.out.sl.fr D1.out (by intro a ha ⟨x, hx, hxb⟩; cases ha; cases hx; simp at hxb))
                          (by rfl) (by have := hn1.out; omega) (by omega) ?_
                        intro ao2 cap2 w6 n2 hn2 o2 f2 d2
                        have g2 : Fr (Up wq.heap.size) wq w6 := by
                          first
                            | exact G1.out.then f2 (by rintro i hi ⟨x, hx, rfl⟩; exact E1.out x hx)
                            | exact (G1.out.alloc _).then f2 (by rintro i hi ⟨x, hx, rfl⟩; exact E1.out x hx)
                        have e2 : ∀ a, ao2 = some a → wq.heap.size ≤ a.block := by
                          intro a ha
                          have hg := G1.out.size
                          rcases d2 with h | h
                          · exact E1.out a (by rw [← h]; exact ha)
                          · have h2 := h a ha; first | omega | (simp at h2; omega)
                        have G2 := Lib.hid g2
                        have O2 := Lib.hid o2
                        have E2 := Lib.hid e2
                        clear g2 o2 e2 d2 f2
                        refine hK.out _ _ ?_ (fun hHeld => ?_)
                        · ((try dsimp only); first | exact SF.out _ ((Fr.refl _ wq).alloc _).drew | exact SF.out _ (((Fr.refl _ wq).alloc _).alloc _).drew | exact SF.out _ G3.out | exact SF.out _ G2.out | exact SF.out _ (G1.out.alloc _) | exact SF.out _ G1.out)
                        · skip
                          clear hK K
                          (try simp only [Act.put, List.setIfInBounds_toArray, List.set_cons_zero, List.set_cons_succ])
                          refine wpAnyH_ready (rs := [18]) (by kernel_rfl) (by simp) (AllReadyH.cons rfl (fun K hK => ?_) AllReadyH.nil)
                          · skip
                            refine step_append_15 (.tmp 98) (.tmp 104) (by rfl) (by rfl) (by rfl) (by rfl) (xs := [] ++ rs.take k ++ [⟨⟨m0, m1, m2, m3, m4, m5⟩, tu, pn, at_, st⟩]) (ys := rs.drop k)
                              O2.out (HS2.out _ G2.out) (by rw [List.length_drop, ← QT.out.len]) (by have := hn1.out; have := hn2.out; omega) (by omega) ?_
                            intro ao3 cap3 w7 n3 hn3 o3 f3 d3
                            have g3 : Fr (Up wq.heap.size) wq w7 := G2.out.then f3 (by rintro i hi ⟨x, hx, rfl⟩; exact E2.out x hx)
                            have e3 : ∀ a, ao3 = some a → wq.heap.size ≤ a.block := by
                              intro a ha
                              have hg := G2.out.size
                              rcases d3 with h | h
                              · exact E2.out a (by rw [← h]; exact ha)
                              · have h2 := h a ha; omega
                            have G3 := Lib.hid g3
                            have O3 := Lib.hid o3
                            have E3 := Lib.hid e3
                            have hn4 : Hid (n3 = (rs.take k ++ ⟨⟨m0, m1, m2, m3, m4, m5⟩, tu, pn, at_, st⟩ :: rs.drop k).length) := Lib.hid (by have h1 := hn1.out; have h2 := hn2.out; have h3 := hn3.out; have h4 := QT.out.len; simp; omega)
                            clear g3 o3 e3 d3 f3
                            refine hK.out _ _ ?_ (fun hHeld => ?_)
                            · ((try dsimp only); first | exact SF.out _ ((Fr.refl _ wq).alloc _).drew | exact SF.out _ (((Fr.refl _ wq).alloc _).alloc _).drew | exact SF.out _ G3.out | exact SF.out _ G2.out | exact SF.out _ (G1.out.alloc _) | exact SF.out _ G1.out)
                            · skip
                              clear hK K
                              (try simp only [Act.put, List.setIfInBounds_toArray, List.set_cons_zero, List.set_cons_succ])
                              apply wpAnyH_take (i := 19)
                              · rfl
                              · kernel_rfl
                              · kernel_rfl
                              · kernel_rfl
                              · exact fun _ _ _ h => h
                              · (refine Or.inl ⟨by rfl, ?_⟩; intro w hSw; (try dsimp only at hSw); go_simp; try with_reducible rfl)
                              · assumption
                              simp only [Act.put, List.setIfInBounds_toArray, List.set_cons_zero, List.set_cons_succ]
                              apply wpAnyH_take (i := 20)
                              · rfl
                              · kernel_rfl
                              · kernel_rfl
                              · kernel_rfl
                              · exact fun _ _ _ h => h
                              · (refine Or.inl ⟨by rfl, ?_⟩; intro w hSw; (try dsimp only at hSw); go_simp; try with_reducible rfl)
                              · assumption
                              simp only [Act.put, List.setIfInBounds_toArray, List.set_cons_zero, List.set_cons_succ]
                              refine wpAnyH_done (by kernel_rfl) ?_ _
                              change Oper.wp _ _ _ _ _ _
                              go_simp
                              go_wp2_with fail
                              all_goals go_ret
                              all_goals exact add15_end (P := fun r W => r = .returned (.int .i64 c) ∧ Res15 w rb ao room life A' W) QT.out G3.out O3.out E3.out hn4.out HA.out HE.out
              · skip
                go_simp
                refine hK.out _ _ ?_ (fun hHeld => ?_)
                · ((try dsimp only); first | exact SF.out _ ((Fr.refl _ wq).alloc _).drew | exact SF.out _ (((Fr.refl _ wq).alloc _).alloc _).drew | exact SF.out _ G3.out | exact SF.out _ G2.out | exact SF.out _ (G1.out.alloc _) | exact SF.out _ G1.out)
                · skip
                  clear hK K
                  (try simp only [Act.put, List.setIfInBounds_toArray, List.set_cons_zero, List.set_cons_succ])
                  refine wpAnyH_ready (rs := [8]) (by kernel_rfl) (by simp) (AllReadyH.cons rfl (fun K hK => ?_) AllReadyH.nil)
                  · skip
                    refine step_append_15 (.tmp 88) (.tmp 94) (by rfl) (by rfl) (by rfl) (by rfl) (xs := []) (ys := rs.take k)
                      (by first | exact OE.out | exact OE1.out | exact OE2.out)
                      (HS1.out _ (by first | exact ((Fr.refl _ wq).alloc _).drew | exact (((Fr.refl _ wq).alloc _).alloc _).drew))
                      (by rw [List.length_take, ← QT.out.len]; omega) (by omega) (by omega) ?_
                    intro ao1 cap1 w5 n1 hn1 o1 f1 d1
                    have g1 : Fr (Up wq.heap.size) wq w5 := by
                      first
                        | exact (((Fr.refl _ wq).alloc _).drew).then f1 (by rintro i hi ⟨x, hx, rfl⟩; cases hx; simp only [Up]; omega)
                        | exact ((((Fr.refl _ wq).alloc _).alloc _).drew).then f1 (by rintro i hi ⟨x, hx, rfl⟩; cases hx; simp only [Up]; omega)
                    have e1 : ∀ a, ao1 = some a → wq.heap.size ≤ a.block := by
                      intro a ha
                      rcases d1 with h | h
                      · rw [h] at ha; cases ha; simp only; omega
                      · have h2 := h a ha; simp at h2; omega
                    have G1 := Lib.hid g1
                    have O1 := Lib.hid o1
                    have E1 := Lib.hid e1
                    have D1 := Lib.hid f1
                    clear g1 o1 e1 d1 f1
                    refine hK.out _ _ ?_ (fun hHeld => ?_)
                    · ((try dsimp only); first | exact SF.out _ ((Fr.refl _ wq).alloc _).drew | exact SF.out _ (((Fr.refl _ wq).alloc _).alloc _).drew | exact SF.out _ G3.out | exact SF.out _ G2.out | exact SF.out _ (G1.out.alloc _) | exact SF.out _ G1.out)
                    · skip
                      clear hK K
                      (try simp only [Act.put, List.setIfInBounds_toArray, List.set_cons_zero, List.set_cons_succ])
                      refine wpAnyH_ready (rs := [11]) (by kernel_rfl) (by simp) (AllReadyH.cons rfl (fun K hK => ?_) AllReadyH.nil)
                      · skip
                        refine step_append_15 (.tmp 95) (.tmp 97) (by rfl) (by rfl) (by rfl) (by rfl) (xs := [] ++ rs.take k) (ys := [⟨⟨m0, m1, m2, m3, m4, m5⟩, tu, pn, at_, st⟩])
                          (by first | exact O1.out | exact O1.out.no ((Fr.refl No _).alloc _))
                          (by first | exact (Own.made (w := w5) (e := 62) (size := 10) #[.int .u8 (m0.toNat : Int), .int .u8 (m1.toNat : Int), .int .u8 (m2.toNat : Int), .int .u8 (m3.toNat : Int), .int .u8 (m4.toNat : Int), .int .u8 (m5.toNat : Int), .bool tu, .int .i64 pn, .int .u64 at_, .bool st] 1 rfl (by decide)).sl | exact OB.out.sl.fr D1.out (by intro a ha ⟨x, hx, hxb⟩; cases ha; cases hx; simp only at hxb; omega) | exact OC.out.sl.fr D1.out (by intro a ha ⟨x, hx, hxb⟩; cases ha; cases hx; simp at hxb))
                          (by rfl) (by have := hn1.out; omega) (by omega) ?_
                        intro ao2 cap2 w6 n2 hn2 o2 f2 d2
                        have g2 : Fr (Up wq.heap.size) wq w6 := by
                          first
                            | exact G1.out.then f2 (by rintro i hi ⟨x, hx, rfl⟩; exact E1.out x hx)
                            | exact (G1.out.alloc _).then f2 (by rintro i hi ⟨x, hx, rfl⟩; exact E1.out x hx)
                        have e2 : ∀ a, ao2 = some a → wq.heap.size ≤ a.block := by
                          intro a ha
                          have hg := G1.out.size
                          rcases d2 with h | h
                          · exact E1.out a (by rw [← h]; exact ha)
                          · have h2 := h a ha; first | omega | (simp at h2; omega)
                        have G2 := Lib.hid g2
                        have O2 := Lib.hid o2
                        have E2 := Lib.hid e2
                        clear g2 o2 e2 d2 f2
                        refine hK.out _ _ ?_ (fun hHeld => ?_)
                        · ((try dsimp only); first | exact SF.out _ ((Fr.refl _ wq).alloc _).drew | exact SF.out _ (((Fr.refl _ wq).alloc _).alloc _).drew | exact SF.out _ G3.out | exact SF.out _ G2.out | exact SF.out _ (G1.out.alloc _) | exact SF.out _ G1.out)
                        · skip
                          clear hK K
                          (try simp only [Act.put, List.setIfInBounds_toArray, List.set_cons_zero, List.set_cons_succ])
                          refine wpAnyH_ready (rs := [18]) (by kernel_rfl) (by simp) (AllReadyH.cons rfl (fun K hK => ?_) AllReadyH.nil)
                          · skip
                            refine step_append_15 (.tmp 98) (.tmp 104) (by rfl) (by rfl) (by rfl) (by rfl) (xs := [] ++ rs.take k ++ [⟨⟨m0, m1, m2, m3, m4, m5⟩, tu, pn, at_, st⟩]) (ys := rs.drop k)
                              O2.out (HS2.out _ G2.out) (by rw [List.length_drop, ← QT.out.len]) (by have := hn1.out; have := hn2.out; omega) (by omega) ?_
                            intro ao3 cap3 w7 n3 hn3 o3 f3 d3
                            have g3 : Fr (Up wq.heap.size) wq w7 := G2.out.then f3 (by rintro i hi ⟨x, hx, rfl⟩; exact E2.out x hx)
                            have e3 : ∀ a, ao3 = some a → wq.heap.size ≤ a.block := by
                              intro a ha
                              have hg := G2.out.size
                              rcases d3 with h | h
                              · exact E2.out a (by rw [← h]; exact ha)
                              · have h2 := h a ha; omega
                            have G3 := Lib.hid g3
                            have O3 := Lib.hid o3
                            have E3 := Lib.hid e3
                            have hn4 : Hid (n3 = (rs.take k ++ ⟨⟨m0, m1, m2, m3, m4, m5⟩, tu, pn, at_, st⟩ :: rs.drop k).length) := Lib.hid (by have h1 := hn1.out; have h2 := hn2.out; have h3 := hn3.out; have h4 := QT.out.len; simp; omega)
                            clear g3 o3 e3 d3 f3
                            refine hK.out _ _ ?_ (fun hHeld => ?_)
                            · ((try dsimp only); first | exact SF.out _ ((Fr.refl _ wq).alloc _).drew | exact SF.out _ (((Fr.refl _ wq).alloc _).alloc _).drew | exact SF.out _ G3.out | exact SF.out _ G2.out | exact SF.out _ (G1.out.alloc _) | exact SF.out _ G1.out)
                            · skip
                              clear hK K
                              (try simp only [Act.put, List.setIfInBounds_toArray, List.set_cons_zero, List.set_cons_succ])
                              apply wpAnyH_take (i := 19)
                              · rfl
                              · kernel_rfl
                              · kernel_rfl
                              · kernel_rfl
                              · exact fun _ _ _ h => h
                              · (refine Or.inl ⟨by rfl, ?_⟩; intro w hSw; (try dsimp only at hSw); go_simp; try with_reducible rfl)
                              · assumption
                              simp only [Act.put, List.setIfInBounds_toArray, List.set_cons_zero, List.set_cons_succ]
                              apply wpAnyH_take (i := 20)
                              · rfl
                              · kernel_rfl
                              · kernel_rfl
                              · kernel_rfl
                              · exact fun _ _ _ h => h
                              · (refine Or.inl ⟨by rfl, ?_⟩; intro w hSw; (try dsimp only at hSw); go_simp; try with_reducible rfl)
                              · assumption
                              simp only [Act.put, List.setIfInBounds_toArray, List.set_cons_zero, List.set_cons_succ]
                              refine wpAnyH_done (by kernel_rfl) ?_ _
                              change Oper.wp _ _ _ _ _ _
                              go_simp
                              go_wp2_with fail
                              all_goals go_ret
                              all_goals exact add15_end (P := fun r W => r = .returned (.int .i64 c) ∧ Res15 w rb ao room life A' W) QT.out G3.out O3.out E3.out hn4.out HA.out HE.out
          · skip
            go_simp
            refine hK.out _ _ ?_ (fun hHeld => ?_)
            · ((try dsimp only); first | exact SF.out _ ((Fr.refl _ wq).alloc _).drew | exact SF.out _ (((Fr.refl _ wq).alloc _).alloc _).drew | exact SF.out _ G3.out | exact SF.out _ G2.out | exact SF.out _ (G1.out.alloc _) | exact SF.out _ G1.out)
            · skip
              clear hK K
              (try simp only [Act.put, List.setIfInBounds_toArray, List.set_cons_zero, List.set_cons_succ])
              refine wpAnyH_ready (rs := [1]) (by kernel_rfl) (by simp) (AllReadyH.cons rfl (fun K hK => ?_) AllReadyH.nil)
              · skip
                go_simp
                refine hK.out _ _ ?_ (fun hHeld => ?_)
                · ((try dsimp only); first | exact SF.out _ ((Fr.refl _ wq).alloc _).drew | exact SF.out _ (((Fr.refl _ wq).alloc _).alloc _).drew | exact SF.out _ G3.out | exact SF.out _ G2.out | exact SF.out _ (G1.out.alloc _) | exact SF.out _ G1.out)
                · skip
                  clear hK K
                  (try simp only [Act.put, List.setIfInBounds_toArray, List.set_cons_zero, List.set_cons_succ])
                  refine wpAnyH_ready (rs := [8]) (by kernel_rfl) (by simp) (AllReadyH.cons rfl (fun K hK => ?_) AllReadyH.nil)
                  · skip
                    refine step_append_15 (.tmp 88) (.tmp 94) (by rfl) (by rfl) (by rfl) (by rfl) (xs := []) (ys := rs.take k)
                      (by first | exact OE.out | exact OE1.out | exact OE2.out)
                      (HS1.out _ (by first | exact ((Fr.refl _ wq).alloc _).drew | exact (((Fr.refl _ wq).alloc _).alloc _).drew))
                      (by rw [List.length_take, ← QT.out.len]; omega) (by omega) (by omega) ?_
                    intro ao1 cap1 w5 n1 hn1 o1 f1 d1
                    have g1 : Fr (Up wq.heap.size) wq w5 := by
                      first
                        | exact (((Fr.refl _ wq).alloc _).drew).then f1 (by rintro i hi ⟨x, hx, rfl⟩; cases hx; simp only [Up]; omega)
                        | exact ((((Fr.refl _ wq).alloc _).alloc _).drew).then f1 (by rintro i hi ⟨x, hx, rfl⟩; cases hx; simp only [Up]; omega)
                    have e1 : ∀ a, ao1 = some a → wq.heap.size ≤ a.block := by
                      intro a ha
                      rcases d1 with h | h
                      · rw [h] at ha; cases ha; simp only; omega
                      · have h2 := h a ha; simp at h2; omega
                    have G1 := Lib.hid g1
                    have O1 := Lib.hid o1
                    have E1 := Lib.hid e1
                    have D1 := Lib.hid f1
                    clear g1 o1 e1 d1 f1
                    refine hK.out _ _ ?_ (fun hHeld => ?_)
                    · ((try dsimp only); first | exact SF.out _ ((Fr.refl _ wq).alloc _).drew | exact SF.out _ (((Fr.refl _ wq).alloc _).alloc _).drew | exact SF.out _ G3.out | exact SF.out _ G2.out | exact SF.out _ (G1.out.alloc _) | exact SF.out _ G1.out)
                    · skip
                      clear hK K
                      (try simp only [Act.put, List.setIfInBounds_toArray, List.set_cons_zero, List.set_cons_succ])
                      refine wpAnyH_ready (rs := [11]) (by kernel_rfl) (by simp) (AllReadyH.cons rfl (fun K hK => ?_) AllReadyH.nil)
                      · skip
                        refine step_append_15 (.tmp 95) (.tmp 97) (by rfl) (by rfl) (by rfl) (by rfl) (xs := [] ++ rs.take k) (ys := [⟨⟨m0, m1, m2, m3, m4, m5⟩, tu, pn, at_, st⟩])
                          (by first | exact O1.out | exact O1.out.no ((Fr.refl No _).alloc _))
                          (by first | exact (Own.made (w := w5) (e := 62) (size := 10) #[.int .u8 (m0.toNat : Int), .int .u8 (m1.toNat : Int), .int .u8 (m2.toNat : Int), .int .u8 (m3.toNat : Int), .int .u8 (m4.toNat : Int), .int .u8 (m5.toNat : Int), .bool tu, .int .i64 pn, .int .u64 at_, .bool st] 1 rfl (by decide)).sl | exact OB.out.sl.fr D1.out (by intro a ha ⟨x, hx, hxb⟩; cases ha; cases hx; simp only at hxb; omega) | exact OC.out.sl.fr D1.out (by intro a ha ⟨x, hx, hxb⟩; cases ha; cases hx; simp at hxb))
                          (by rfl) (by have := hn1.out; omega) (by omega) ?_
                        intro ao2 cap2 w6 n2 hn2 o2 f2 d2
                        have g2 : Fr (Up wq.heap.size) wq w6 := by
                          first
                            | exact G1.out.then f2 (by rintro i hi ⟨x, hx, rfl⟩; exact E1.out x hx)
                            | exact (G1.out.alloc _).then f2 (by rintro i hi ⟨x, hx, rfl⟩; exact E1.out x hx)
                        have e2 : ∀ a, ao2 = some a → wq.heap.size ≤ a.block := by
                          intro a ha
                          have hg := G1.out.size
                          rcases d2 with h | h
                          · exact E1.out a (by rw [← h]; exact ha)
                          · have h2 := h a ha; first | omega | (simp at h2; omega)
                        have G2 := Lib.hid g2
                        have O2 := Lib.hid o2
                        have E2 := Lib.hid e2
                        clear g2 o2 e2 d2 f2
                        refine hK.out _ _ ?_ (fun hHeld => ?_)
                        · ((try dsimp only); first | exact SF.out _ ((Fr.refl _ wq).alloc _).drew | exact SF.out _ (((Fr.refl _ wq).alloc _).alloc _).drew | exact SF.out _ G3.out | exact SF.out _ G2.out | exact SF.out _ (G1.out.alloc _) | exact SF.out _ G1.out)
                        · skip
                          clear hK K
                          (try simp only [Act.put, List.setIfInBounds_toArray, List.set_cons_zero, List.set_cons_succ])
                          refine wpAnyH_ready (rs := [18]) (by kernel_rfl) (by simp) (AllReadyH.cons rfl (fun K hK => ?_) AllReadyH.nil)
                          · skip
                            refine step_append_15 (.tmp 98) (.tmp 104) (by rfl) (by rfl) (by rfl) (by rfl) (xs := [] ++ rs.take k ++ [⟨⟨m0, m1, m2, m3, m4, m5⟩, tu, pn, at_, st⟩]) (ys := rs.drop k)
                              O2.out (HS2.out _ G2.out) (by rw [List.length_drop, ← QT.out.len]) (by have := hn1.out; have := hn2.out; omega) (by omega) ?_
                            intro ao3 cap3 w7 n3 hn3 o3 f3 d3
                            have g3 : Fr (Up wq.heap.size) wq w7 := G2.out.then f3 (by rintro i hi ⟨x, hx, rfl⟩; exact E2.out x hx)
                            have e3 : ∀ a, ao3 = some a → wq.heap.size ≤ a.block := by
                              intro a ha
                              have hg := G2.out.size
                              rcases d3 with h | h
                              · exact E2.out a (by rw [← h]; exact ha)
                              · have h2 := h a ha; omega
                            have G3 := Lib.hid g3
                            have O3 := Lib.hid o3
                            have E3 := Lib.hid e3
                            have hn4 : Hid (n3 = (rs.take k ++ ⟨⟨m0, m1, m2, m3, m4, m5⟩, tu, pn, at_, st⟩ :: rs.drop k).length) := Lib.hid (by have h1 := hn1.out; have h2 := hn2.out; have h3 := hn3.out; have h4 := QT.out.len; simp; omega)
                            clear g3 o3 e3 d3 f3
                            refine hK.out _ _ ?_ (fun hHeld => ?_)
                            · ((try dsimp only); first | exact SF.out _ ((Fr.refl _ wq).alloc _).drew | exact SF.out _ (((Fr.refl _ wq).alloc _).alloc _).drew | exact SF.out _ G3.out | exact SF.out _ G2.out | exact SF.out _ (G1.out.alloc _) | exact SF.out _ G1.out)
                            · skip
                              clear hK K
                              (try simp only [Act.put, List.setIfInBounds_toArray, List.set_cons_zero, List.set_cons_succ])
                              apply wpAnyH_take (i := 19)
                              · rfl
                              · kernel_rfl
                              · kernel_rfl
                              · kernel_rfl
                              · exact fun _ _ _ h => h
                              · (refine Or.inl ⟨by rfl, ?_⟩; intro w hSw; (try dsimp only at hSw); go_simp; try with_reducible rfl)
                              · assumption
                              simp only [Act.put, List.setIfInBounds_toArray, List.set_cons_zero, List.set_cons_succ]
                              apply wpAnyH_take (i := 20)
                              · rfl
                              · kernel_rfl
                              · kernel_rfl
                              · kernel_rfl
                              · exact fun _ _ _ h => h
                              · (refine Or.inl ⟨by rfl, ?_⟩; intro w hSw; (try dsimp only at hSw); go_simp; try with_reducible rfl)
                              · assumption
                              simp only [Act.put, List.setIfInBounds_toArray, List.set_cons_zero, List.set_cons_succ]
                              refine wpAnyH_done (by kernel_rfl) ?_ _
                              change Oper.wp _ _ _ _ _ _
                              go_simp
                              go_wp2_with fail
                              all_goals go_ret
                              all_goals exact add15_end (P := fun r W => r = .returned (.int .i64 c) ∧ Res15 w rb ao room life A' W) QT.out G3.out O3.out E3.out hn4.out HA.out HE.out
end Go.Proofs.YtgmaelndhmnjiaaDoor
