/- tunnel: Port. -/
import Derived.Test.YthoppkklooomgaaTnG
import Derived.Laws.BitsAllLaws
namespace Go.Proofs.Ythoppkklooomgaa
open Go.RowKit
set_option linter.unusedVariables false
set_option linter.unusedSimpArgs false
theorem u32_xor_nat' (a b : Nat) (ha : a < 4294967296) (hb : b < 4294967296) : bits .xor .u32 (a : Int) (b : Int) = ((Nat.xor a b : Nat) : Int) := by
  have hx : a ^^^ b < 2 ^ 32 := Nat.xor_lt_two_pow (by omega) (by omega)
  have hxx : Nat.xor a b = a ^^^ b := rfl
  show IntKind.u32.wrap ((BitVec.ofInt 32 (a : Int) ^^^ BitVec.ofInt 32 (b : Int)).toNat : Int) = _
  rw [BitVec.toNat_xor, ofInt_u32 a ha, ofInt_u32 b hb, IntKind.wrap_u32, hxx]
  omega
/-- append at []byte, at a step of a region that draws its order. -/
theorem step_append_b {w : World} {ops : Array Oper} {o : Oper} {a : Act} {K : Act → World → Prop} {Q : Exit → Act → World → Prop} {E : Prop} (s x : Operand)
    (hgd : o.guard = none) (hop : o.op = .call { callee := .builtin .append, args := #[s, x], argTypes := #[36, 36] })
    {ao : Option Addr} {n cap : Nat} (hev : a.eval s = .slice ao n cap) {bo : Option Addr} {m c : Nat} (hex : a.eval x = .slice bo m c)
    {xs ys : List UInt8} (h1 : OB w 5 ao n cap xs) (h2 : Bs w bo m c ys) (hb : n + m ≤ big)
    (hK : ∀ ao' cap' w', OB w' 5 ao' (n + m) cap' (xs ++ ys) → Fr (At ao) w w' → (ao' = ao ∨ ∀ a, ao' = some a → w.heap.size ≤ a.block) → K (a.put o.dst (.slice ao' (n + m) cap')) w') :
    if Region.wanted o (yielded ops a.tmps) = true then Oper.wp Try.prog o a w K Q else E := by
  have hw : Region.wanted o (yielded ops a.tmps) = true := by simp [Region.wanted, hgd]
  rw [if_pos hw]
  obtain ⟨i0, hi, hz0, hz1, hz2⟩ := info_parts info_u8
  unfold big at hb
  obtain ⟨ao', cap', w', hrun, r1, r2, r3, r4, r5⟩ := run_append_U (P := Try.prog) w 36 o.type 5 i0 (.int .u8 0) 1 1 Try.underlying36 hi hz0 hz1 hz2 rfl (by decide) ao n cap (bytesV xs) h1.2 bo m c (bytesV ys) h2.2 (by rw [bytesV_length, h2.1]; omega) (bytesV_one ys) (by omega) (by omega)
  unfold Oper.wp
  simp [execOp, hop, resolve, invoke, builtin, hev, hex, hrun, Result.andThen]
  exact hK ao' cap' w' ⟨by rw [h1.1, h2.1]; simp, by rw [bytesV_append]; exact r1⟩ r2 r3

def flowB (fs : List UInt8) : Bool := decide (34 ≤ fs.length ∧ fs[12]? = some 8 ∧ fs[13]? = some 0)
theorem flowOf_yes {fs : List UInt8} (h : flowB fs = true) {c : UInt8} (hc : fs[23]? = some c) : flowOf fs = (fs.take 12 ++ [c]) ++ (fs.drop 26).take 8 := by
  unfold flowOf
  rw [if_pos (of_decide_eq_true h)]
  have h23 : 23 < fs.length := (List.getElem?_eq_some_iff.1 hc).1
  have e : (fs.drop 23).take 1 = [c] := by
    rw [List.drop_eq_getElem_cons h23]
    have : fs[23] = c := (List.getElem?_eq_some_iff.1 hc).2
    rw [this]; rfl
  rw [e, List.append_assoc]
theorem flowOf_no {fs : List UInt8} (h : flowB fs = false) : flowOf fs = fs.take 12 := by
  unfold flowOf
  rw [if_neg (of_decide_eq_false h), List.append_nil]
theorem flowOf_len (fs : List UInt8) : (flowOf fs).length ≤ 21 := by
  unfold flowOf
  have h1 := List.length_take_le 12 fs
  split
  · have h2 := List.length_take_le 1 (fs.drop 23)
    have h3 := List.length_take_le 8 (fs.drop 26)
    simp only [List.length_append]; omega
  · simp only [List.append_nil]; omega
theorem fnv_lt (n : Nat) (c : UInt8) : fnv n c < 4294967296 := by unfold fnv; omega
theorem fnv_fold_lt (l : List UInt8) : ∀ n, n < 4294967296 → l.foldl fnv n < 4294967296 := by
  induction l with
  | nil => intro n h; exact h
  | cons c l ih => intro n _; exact ih _ (fnv_lt n c)
theorem fnv_step (n : Nat) (hn : n < 4294967296) (c : UInt8) : IntKind.u32.wrap (bits .xor .u32 (n : Int) (c.toNat : Int) * 16777619) = ((fnv n c : Nat) : Int) := by
  have hc := c.toNat_lt
  rw [u32_xor_nat' n c.toNat hn (by omega), IntKind.wrap_u32]
  unfold fnv
  omega

/-- The walk behind the flow's bytes. -/
def portEnd (w : World) (fs : List UInt8) (e : Ending) (w' : World) : Prop := e = .returned (.int .u16 (portOf fs : Int)) ∧ Fr No w w'
set_option maxRecDepth 100000 in
set_option maxHeartbeats 3200000 in
theorem tnPort_any {w : World} {ao : Option Addr} {n cap : Nat} {fs : List UInt8} (h : Bs w ao n cap fs) : Calls Try.prog 14 #[.slice ao n cap] w (portEnd w fs) := by
  have HB := Lib.hid h
  have HN := Lib.hid h.1
  have g1 := h.2.le
  have g2 := h.2.capLe
  clear h
  by_cases hle : n ≤ 12
  · have hfl : flowOf fs = fs := by
      rw [flowOf_no (by unfold flowB; exact decide_eq_false (by have := HN.out; omega)), List.take_of_length_le (by have := HN.out; omega)]
    have HFL := Lib.hid hfl
    clear hfl
    have hd : decide ((34 : Int) ≤ (n : Int)) = false := decide_eq_false (by omega)
    have hd2 : ¬ ((34 : Int) ≤ (n : Int)) := by omega
    have hmn : min (n : Int) 12 = (n : Int) := by omega
    go_enter Try.func14, Try.ntmps14
    go_upto_region 2 with (go_at_call 28; refine (cloneB_any HB.out (by unfold big; omega)).mono ?_; rintro e w1 ⟨bo, bc, rfl, ob, f1, -⟩; have OB1 := Lib.hid ob; have F1 := Lib.hid f1; clear ob f1)
    go_quiet (fail)
    go_upto_region 4 with fail
    obtain ⟨w5, hw5⟩ : ∃ w5, w5 = w1.drewN nq := ⟨_, rfl⟩
    have OB5 : Hid (OB w5 5 bo n bc (flowOf fs)) := Lib.hid (by rw [hw5, HFL.out]; exact OB1.out.no ((Fr.refl No _).drewN _))
    have F5 : Hid (Fr No w w5) := Lib.hid (by rw [hw5]; exact F1.out.drewN _)
    rw [← hw5]
    clear hw5 OB1 F1 hd hd2 hmn
    obtain ⟨bl, hbl0⟩ : ∃ bl, bl = n := ⟨_, rfl⟩
    rw [← hbl0] at OB5 ⊢
    clear hbl0
    have hbl : bl ≤ 21 := by rw [OB5.out.1]; exact flowOf_len fs
    have gb1 := OB5.out.2.le
    have gb2 := OB5.out.2.capLe
    go_wp2_with fail
    go_loop [4, 40] (fun s4 s40 => ∃ k : Nat, k ≤ bl ∧ s40 = .int .i64 k ∧ s4 = .int .u32 (((flowOf fs).take k).foldl fnv 2166136261 : Nat)) (fun _ s40 => bl - (intOf s40).toNat)
    case atStart => exact ⟨0, by omega, rfl, by simp⟩
    case round =>
      obtain ⟨k, hk, rfl, rfl⟩ := hrel
      have hv := fnv_fold_lt ((flowOf fs).take k) 2166136261 (by omega)
      by_cases hlt : k < bl
      · obtain ⟨c, hc⟩ := at_lt (bs := flowOf fs) (k := k) (by rw [← OB5.out.1]; exact hlt)
        obtain ⟨x, rfl⟩ := OB5.out.bs.some (by rw [← OB5.out.1]; omega)
        obtain ⟨hx, -⟩ := OB5.out.2.row x rfl
        have c0 := OB5.out.bs.at hc
        obtain ⟨xb, xo, xs⟩ := x
        cases hx
        rw [Addr.add_lit, Nat.zero_add] at c0
        have hst := fnv_step _ hv c
        have hsn : ((flowOf fs).take (k + 1)).foldl fnv 2166136261 = fnv (((flowOf fs).take k).foldl fnv 2166136261) c := by rw [take_succ_at hc, List.foldl_append, List.foldl_cons, List.foldl_nil]
        obtain ⟨z2, hz2⟩ : ∃ z2, ((flowOf fs).take (k + 1)).foldl fnv 2166136261 = z2 := ⟨_, rfl⟩
        rw [← hsn, hz2] at hst
        have HZ2 := Lib.hid hz2
        have hcn := c.toNat_lt
        have kb : (k : Int) < (bl : Int) := by omega
        have kb0 : (0 : Int) ≤ (k : Int) := by omega
        clear hc hsn hz2
        generalize ((flowOf fs).take k).foldl fnv 2166136261 = z at hv hst ⊢
        go_wp2_with fail
        go_round
        case rel => exact ⟨k + 1, by omega, by go_num, by rw [HZ2.out]⟩
        case measure => simp [intOf]; omega
      · have hall : (flowOf fs).take k = flowOf fs := List.take_of_length_le (by rw [← OB5.out.1]; omega)
        rw [hall] at hv ⊢
        have hp : portOf fs = 49152 + (flowOf fs).foldl fnv 2166136261 % 16384 := by rw [portOf]
        generalize (flowOf fs).foldl fnv 2166136261 = z at hv hp ⊢
        have HPP := Lib.hid hp
        clear hall hp
        go_wp2_with fail
        go_ret
        refine ⟨?_, F5.out⟩
        rw [HPP.out]
        have e : ((49152 + z % 16384 : Nat) : Int) = 49152 + (z : Int) % 16384 := by omega
        rw [e]
        rfl
  have h12 : ¬ n ≤ 12 := hle
  have hmn : min (n : Int) 12 = 12 := by omega
  have hb12 : Bs w ao 12 cap (fs.take 12) := by
    obtain ⟨e1, e2⟩ := HB.out
    refine ⟨by rw [List.length_take]; omega, ⟨by omega, e2.capLe, e2.nocap, fun a ha j u hu => e2.cell a ha j u ?_⟩⟩
    rw [bytesV, List.map_take, List.getElem?_take] at hu
    split at hu
    · exact hu
    · cases hu
  have HB12 := Lib.hid hb12
  have hc12 : ((12 : Int) ≤ (cap : Int)) := by omega
  clear hb12
  obtain ⟨a, rfl⟩ := HB.out.some (by rw [← HN.out]; omega)
  have hsp : a.spot = none := by
    obtain ⟨c, hc⟩ := at_lt (bs := fs) (k := 0) (by rw [← HN.out]; omega)
    have := HB.out.at hc
    exact World.cell?_spot (w := w) (v := .int .u8 (c.toNat : Int)) (by rwa [show a.add 0 = a from rfl] at this)
  have hlta : a.block < w.heap.size := by
    obtain ⟨c, hc⟩ := at_lt (bs := fs) (k := 0) (by rw [← HN.out]; omega)
    have := lt_of_cell (HB.out.at hc)
    rwa [Addr.add_block] at this
  obtain ⟨ab, aoff, asp⟩ := a
  cases hsp
  simp only at hlta
  by_cases h34 : n < 34
  · have hfl : flowOf fs = fs.take 12 := flowOf_no (by unfold flowB; exact decide_eq_false (by have := HN.out; omega))
    have HFL := Lib.hid hfl
    clear hfl
    have hd : decide ((34 : Int) ≤ (n : Int)) = false := decide_eq_false (by omega)
    go_enter Try.func14, Try.ntmps14
    go_upto_region 2 with (go_at_call 28; refine (cloneB_any HB12.out (by unfold big; omega)).mono ?_; rintro e w1 ⟨bo, bc, rfl, ob, f1, -⟩; have OB1 := Lib.hid ob; have F1 := Lib.hid f1; clear ob f1)
    go_quiet (fail)
    go_upto_region 4 with fail
    obtain ⟨w5, hw5⟩ : ∃ w5, w5 = w1.drewN nq := ⟨_, rfl⟩
    have OB5 : Hid (OB w5 5 bo 12 bc (flowOf fs)) := Lib.hid (by rw [hw5, HFL.out]; exact OB1.out.no ((Fr.refl No _).drewN _))
    have F5 : Hid (Fr No w w5) := Lib.hid (by rw [hw5]; exact F1.out.drewN _)
    rw [← hw5]
    clear hw5 OB1 F1 hd hmn
    obtain ⟨bl, hbl0⟩ : ∃ bl, bl = 12 := ⟨_, rfl⟩
    rw [← hbl0] at OB5 ⊢
    clear hbl0
    have hbl : bl ≤ 21 := by rw [OB5.out.1]; exact flowOf_len fs
    have gb1 := OB5.out.2.le
    have gb2 := OB5.out.2.capLe
    go_wp2_with fail
    go_loop [4, 40] (fun s4 s40 => ∃ k : Nat, k ≤ bl ∧ s40 = .int .i64 k ∧ s4 = .int .u32 (((flowOf fs).take k).foldl fnv 2166136261 : Nat)) (fun _ s40 => bl - (intOf s40).toNat)
    case atStart => exact ⟨0, by omega, rfl, by simp⟩
    case round =>
      obtain ⟨k, hk, rfl, rfl⟩ := hrel
      have hv := fnv_fold_lt ((flowOf fs).take k) 2166136261 (by omega)
      by_cases hlt : k < bl
      · obtain ⟨c, hc⟩ := at_lt (bs := flowOf fs) (k := k) (by rw [← OB5.out.1]; exact hlt)
        obtain ⟨x, rfl⟩ := OB5.out.bs.some (by rw [← OB5.out.1]; omega)
        obtain ⟨hx, -⟩ := OB5.out.2.row x rfl
        have c0 := OB5.out.bs.at hc
        obtain ⟨xb, xo, xs⟩ := x
        cases hx
        rw [Addr.add_lit, Nat.zero_add] at c0
        have hst := fnv_step _ hv c
        have hsn : ((flowOf fs).take (k + 1)).foldl fnv 2166136261 = fnv (((flowOf fs).take k).foldl fnv 2166136261) c := by rw [take_succ_at hc, List.foldl_append, List.foldl_cons, List.foldl_nil]
        obtain ⟨z2, hz2⟩ : ∃ z2, ((flowOf fs).take (k + 1)).foldl fnv 2166136261 = z2 := ⟨_, rfl⟩
        rw [← hsn, hz2] at hst
        have HZ2 := Lib.hid hz2
        have hcn := c.toNat_lt
        have kb : (k : Int) < (bl : Int) := by omega
        have kb0 : (0 : Int) ≤ (k : Int) := by omega
        clear hc hsn hz2
        generalize ((flowOf fs).take k).foldl fnv 2166136261 = z at hv hst ⊢
        go_wp2_with fail
        go_round
        case rel => exact ⟨k + 1, by omega, by go_num, by rw [HZ2.out]⟩
        case measure => simp [intOf]; omega
      · have hall : (flowOf fs).take k = flowOf fs := List.take_of_length_le (by rw [← OB5.out.1]; omega)
        rw [hall] at hv ⊢
        have hp : portOf fs = 49152 + (flowOf fs).foldl fnv 2166136261 % 16384 := by rw [portOf]
        generalize (flowOf fs).foldl fnv 2166136261 = z at hv hp ⊢
        have HPP := Lib.hid hp
        clear hall hp
        go_wp2_with fail
        go_ret
        refine ⟨?_, F5.out⟩
        rw [HPP.out]
        have e : ((49152 + z % 16384 : Nat) : Int) = 49152 + (z : Int) % 16384 := by omega
        rw [e]
        rfl
  have b34 : (34 : Int) ≤ (n : Int) := by omega
  have hd : decide ((34 : Int) ≤ (n : Int)) = true := decide_eq_true b34
  obtain ⟨p, hp⟩ := at_lt (bs := fs) (k := 12) (by rw [← HN.out]; omega)
  obtain ⟨q, hq⟩ := at_lt (bs := fs) (k := 13) (by rw [← HN.out]; omega)
  have HP := Lib.hid hp
  have HQ := Lib.hid hq
  have x12 : (12 : Int) < (n : Int) := by omega
  have x13 : (13 : Int) < (n : Int) := by omega
  obtain ⟨v, hv⟩ : ∃ v, p.toNat * 256 + q.toNat = v := ⟨_, rfl⟩
  have pl := p.toNat_lt
  have ql := q.toNat_lt
  have hor : bits .or .u16 ((p.toNat : Int) * 256) (q.toNat : Int) = (v : Int) := by
    have e1 : ((p.toNat : Int) * 256) = ((p.toNat * 256 : Nat) : Int) := by omega
    rw [e1, u16_or_nat _ _ (by omega) (by omega), nat_join8 _ _ (by omega) ql, hv]
  have HV := Lib.hid hv
  clear hp hq hv
  by_cases hv2 : v = 2048
  · subst hv2
    have hp8 : p = 8 ∧ q = 0 := by
      have h1 := HV.out
      exact ⟨UInt8.toNat_inj.1 (show p.toNat = 8 by omega), UInt8.toNat_inj.1 (show q.toNat = 0 by omega)⟩
    obtain ⟨c, hc⟩ := at_lt (bs := fs) (k := 23) (by rw [← HN.out]; omega)
    have hfb : flowB fs = true := by
      unfold flowB
      exact decide_eq_true ⟨by have := HN.out; omega, by rw [HP.out, hp8.1], by rw [HQ.out, hp8.2]⟩
    have HFL := Lib.hid (flowOf_yes hfb hc)
    have HC := Lib.hid hc
    clear hp8 hc hfb
    go_enter Try.func14, Try.ntmps14
    go_upto_region 2 with (go_at_call 28; refine (cloneB_any HB12.out (by unfold big; omega)).mono ?_; rintro e w1 ⟨bo, bc, rfl, ob, f1, hnew⟩; have OB1 := Lib.hid ob; have F1 := Lib.hid f1; have HNW := Lib.hid hnew; clear ob f1 hnew)
    have c12 : w1.cell? ⟨ab, aoff + 12, none⟩ = some (.int .u8 (p.toNat : Int)) := by have := (HB.out.no F1.out).at HP.out; rwa [Addr.add_lit] at this
    have c13 : w1.cell? ⟨ab, aoff + 13, none⟩ = some (.int .u8 (q.toNat : Int)) := by have := (HB.out.no F1.out).at HQ.out; rwa [Addr.add_lit] at this
    go_quiet (fail)
    go_upto_region 3 with fail
    obtain ⟨w5, hw5⟩ : ∃ w5, w5 = w1.drewN nq := ⟨_, rfl⟩
    have OB4 : Hid (OB w5 5 bo 12 bc (fs.take 12)) := Lib.hid (by rw [hw5]; exact OB1.out.no ((Fr.refl No _).drewN _))
    have F4 : Hid (Fr No w w5) := Lib.hid (by rw [hw5]; exact F1.out.drewN _)
    rw [← hw5]
    have hz5 := F4.out.size
    clear hw5 OB1 F1 hd hmn c12 c13 hor x12 x13
    have hnb : ∀ x, bo = some x → x.block ≠ ab := fun x hx e => by have := HNW.out x hx; omega
    have SF : Hid (∀ W, Fr (fun k => At bo k ∨ w5.heap.size ≤ k) w5 W → W.cell? ⟨ab, aoff + 23, none⟩ = some (.int .u8 (c.toNat : Int))) := Lib.hid (fun W f => by
      have := (HB.out.no F4.out).at HC.out
      rw [Addr.add_lit] at this
      exact f.cell this (by rintro (⟨x, hx, e⟩ | h); exact hnb x hx e; simp only at h; omega))
    have CF : Hid (∀ W, Fr (fun k => At bo k ∨ w5.heap.size ≤ k) w5 W → Bs W (some ⟨ab, aoff + 26, none⟩) 8 (cap - 26) ((fs.drop 26).take 8)) := Lib.hid (fun W f => by
      have h1 := (HB.out.no F4.out).cut 26 34 cap (by omega) (by omega) (Nat.le_refl _) (by omega) (a' := some ⟨ab, aoff + 26, none⟩) (by rw [if_neg (by omega), Option.map_some, Addr.add_lit])
      exact h1.fr f (by rintro a ha (⟨x, hx, e⟩ | h); cases ha; exact hnb x hx e; cases ha; simp only at h; omega))
    have c23 := SF.out _ (Fr.refl _ _)
    have x23 : (23 : Int) < (n : Int) := by omega
    have x26 : (34 : Int) ≤ (cap : Int) := by omega
    have x27 : ¬ (cap = 26) := by omega
    have FU : ∀ {W W' : World}, Fr No W W' → Fr (fun k => At bo k ∨ w5.heap.size ≤ k) W W' := fun h => h.of_no
    go_region_held3 (fun W => W.cell? ⟨ab, aoff + 23, none⟩ = some (.int .u8 (c.toNat : Int)))
      (first | exact SF.out _ (FU (Fr.refl _ _).drew) | exact SF.out _ (FU ((Fr.refl _ _).drew.alloc _)) | exact SF.out _ (FU ((Fr.refl _ _).alloc _).drew) | exact SF.out _ F7.out | exact SF.out _ F8.out)
      (first
        | (refine step_append_b (.tmp 29) (.tmp 33) rfl rfl rfl rfl (OB4.out.no ((Fr.refl No _).alloc _).drew) ((OB.made (w := w5) [c] (by simp) (by simp [bytesV, byteV]) rfl rfl).bs.no ((Fr.refl No _).drew)) (by unfold big; omega) ?_; intro o7 c7 w7 ob7 f7 d7; have OB7 := Lib.hid ob7; have F7 : Hid (Fr (fun k => At bo k ∨ w5.heap.size ≤ k) w5 w7) := Lib.hid ((FU ((Fr.refl No w5).alloc _).drew).trans (f7.mono (fun k _ h => .inl h))); have D7 := Lib.hid d7; clear ob7 f7 d7)
        | (refine step_append_b (.tmp 34) (.tmp 36) rfl rfl rfl rfl OB7.out (CF.out _ F7.out) (by unfold big; omega) ?_; intro o8 c8 w8 ob8 f8 d8; have OB8 := Lib.hid ob8; have F8 : Hid (Fr (fun k => At bo k ∨ w5.heap.size ≤ k) w5 w8) := Lib.hid (F7.out.then f8 (fun i hi ⟨x, hx, e⟩ => by rcases D7.out with h | h; exact .inl ⟨x, by rw [← h]; exact hx, e⟩; right; have := h x hx; simp at this; omega)); clear ob8 f8 d8))
    have OB5 : Hid (OB w8 5 o8 21 c8 (flowOf fs)) := Lib.hid (by rw [HFL.out]; exact OB8.out)
    have F5 : Hid (Fr No w w8) := Lib.hid (F4.out.then F8.out (by rintro i hi (⟨x, hx, e⟩ | h); have := HNW.out x hx; omega; omega))
    clear SF CF c23 x23 x26 x27 FU hnb OB7 F7 D7 OB8 F8 OB4
    go_upto_region 4 with fail
    obtain ⟨bl, hbl0⟩ : ∃ bl, bl = 21 := ⟨_, rfl⟩
    rw [← hbl0] at OB5 ⊢
    clear hbl0
    have hbl : bl ≤ 21 := by rw [OB5.out.1]; exact flowOf_len fs
    have gb1 := OB5.out.2.le
    have gb2 := OB5.out.2.capLe
    go_wp2_with fail
    go_loop [4, 40] (fun s4 s40 => ∃ k : Nat, k ≤ bl ∧ s40 = .int .i64 k ∧ s4 = .int .u32 (((flowOf fs).take k).foldl fnv 2166136261 : Nat)) (fun _ s40 => bl - (intOf s40).toNat)
    case atStart => exact ⟨0, by omega, rfl, by simp⟩
    case round =>
      obtain ⟨k, hk, rfl, rfl⟩ := hrel
      have hv := fnv_fold_lt ((flowOf fs).take k) 2166136261 (by omega)
      by_cases hlt : k < bl
      · obtain ⟨c, hc⟩ := at_lt (bs := flowOf fs) (k := k) (by rw [← OB5.out.1]; exact hlt)
        obtain ⟨x, rfl⟩ := OB5.out.bs.some (by rw [← OB5.out.1]; omega)
        obtain ⟨hx, -⟩ := OB5.out.2.row x rfl
        have c0 := OB5.out.bs.at hc
        obtain ⟨xb, xo, xs⟩ := x
        cases hx
        rw [Addr.add_lit, Nat.zero_add] at c0
        have hst := fnv_step _ hv c
        have hsn : ((flowOf fs).take (k + 1)).foldl fnv 2166136261 = fnv (((flowOf fs).take k).foldl fnv 2166136261) c := by rw [take_succ_at hc, List.foldl_append, List.foldl_cons, List.foldl_nil]
        obtain ⟨z2, hz2⟩ : ∃ z2, ((flowOf fs).take (k + 1)).foldl fnv 2166136261 = z2 := ⟨_, rfl⟩
        rw [← hsn, hz2] at hst
        have HZ2 := Lib.hid hz2
        have hcn := c.toNat_lt
        have kb : (k : Int) < (bl : Int) := by omega
        have kb0 : (0 : Int) ≤ (k : Int) := by omega
        clear hc hsn hz2
        generalize ((flowOf fs).take k).foldl fnv 2166136261 = z at hv hst ⊢
        go_wp2_with fail
        go_round
        case rel => exact ⟨k + 1, by omega, by go_num, by rw [HZ2.out]⟩
        case measure => simp [intOf]; omega
      · have hall : (flowOf fs).take k = flowOf fs := List.take_of_length_le (by rw [← OB5.out.1]; omega)
        rw [hall] at hv ⊢
        have hp : portOf fs = 49152 + (flowOf fs).foldl fnv 2166136261 % 16384 := by rw [portOf]
        generalize (flowOf fs).foldl fnv 2166136261 = z at hv hp ⊢
        have HPP := Lib.hid hp
        clear hall hp
        go_wp2_with fail
        go_ret
        refine ⟨?_, F5.out⟩
        rw [HPP.out]
        have e : ((49152 + z % 16384 : Nat) : Int) = 49152 + (z : Int) % 16384 := by omega
        rw [e]
        rfl
  · have hfl : flowOf fs = fs.take 12 := flowOf_no (by
      unfold flowB
      refine decide_eq_false (fun h => hv2 ?_)
      obtain ⟨-, h1, h2⟩ := h
      rw [HP.out] at h1
      rw [HQ.out] at h2
      obtain rfl := Option.some.inj h1
      obtain rfl := Option.some.inj h2
      exact HV.out.symm)
    have HFL := Lib.hid hfl
    have hb2 : ((v : Int) == 2048) = false := by simp; omega
    clear hfl hv2
    go_enter Try.func14, Try.ntmps14
    go_upto_region 2 with (go_at_call 28; refine (cloneB_any HB12.out (by unfold big; omega)).mono ?_; rintro e w1 ⟨bo, bc, rfl, ob, f1, -⟩; have OB1 := Lib.hid ob; have F1 := Lib.hid f1; clear ob f1)
    have c12 : w1.cell? ⟨ab, aoff + 12, none⟩ = some (.int .u8 (p.toNat : Int)) := by have := (HB.out.no F1.out).at HP.out; rwa [Addr.add_lit] at this
    have c13 : w1.cell? ⟨ab, aoff + 13, none⟩ = some (.int .u8 (q.toNat : Int)) := by have := (HB.out.no F1.out).at HQ.out; rwa [Addr.add_lit] at this
    go_quiet (fail)
    go_upto_region 4 with fail
    obtain ⟨w5, hw5⟩ : ∃ w5, w5 = w1.drewN nq := ⟨_, rfl⟩
    have OB5 : Hid (OB w5 5 bo 12 bc (flowOf fs)) := Lib.hid (by rw [hw5, HFL.out]; exact OB1.out.no ((Fr.refl No _).drewN _))
    have F5 : Hid (Fr No w w5) := Lib.hid (by rw [hw5]; exact F1.out.drewN _)
    rw [← hw5]
    clear hw5 OB1 F1 hd hmn c12 c13 hor hb2 x12 x13
    obtain ⟨bl, hbl0⟩ : ∃ bl, bl = 12 := ⟨_, rfl⟩
    rw [← hbl0] at OB5 ⊢
    clear hbl0
    have hbl : bl ≤ 21 := by rw [OB5.out.1]; exact flowOf_len fs
    have gb1 := OB5.out.2.le
    have gb2 := OB5.out.2.capLe
    go_wp2_with fail
    go_loop [4, 40] (fun s4 s40 => ∃ k : Nat, k ≤ bl ∧ s40 = .int .i64 k ∧ s4 = .int .u32 (((flowOf fs).take k).foldl fnv 2166136261 : Nat)) (fun _ s40 => bl - (intOf s40).toNat)
    case atStart => exact ⟨0, by omega, rfl, by simp⟩
    case round =>
      obtain ⟨k, hk, rfl, rfl⟩ := hrel
      have hv := fnv_fold_lt ((flowOf fs).take k) 2166136261 (by omega)
      by_cases hlt : k < bl
      · obtain ⟨c, hc⟩ := at_lt (bs := flowOf fs) (k := k) (by rw [← OB5.out.1]; exact hlt)
        obtain ⟨x, rfl⟩ := OB5.out.bs.some (by rw [← OB5.out.1]; omega)
        obtain ⟨hx, -⟩ := OB5.out.2.row x rfl
        have c0 := OB5.out.bs.at hc
        obtain ⟨xb, xo, xs⟩ := x
        cases hx
        rw [Addr.add_lit, Nat.zero_add] at c0
        have hst := fnv_step _ hv c
        have hsn : ((flowOf fs).take (k + 1)).foldl fnv 2166136261 = fnv (((flowOf fs).take k).foldl fnv 2166136261) c := by rw [take_succ_at hc, List.foldl_append, List.foldl_cons, List.foldl_nil]
        obtain ⟨z2, hz2⟩ : ∃ z2, ((flowOf fs).take (k + 1)).foldl fnv 2166136261 = z2 := ⟨_, rfl⟩
        rw [← hsn, hz2] at hst
        have HZ2 := Lib.hid hz2
        have hcn := c.toNat_lt
        have kb : (k : Int) < (bl : Int) := by omega
        have kb0 : (0 : Int) ≤ (k : Int) := by omega
        clear hc hsn hz2
        generalize ((flowOf fs).take k).foldl fnv 2166136261 = z at hv hst ⊢
        go_wp2_with fail
        go_round
        case rel => exact ⟨k + 1, by omega, by go_num, by rw [HZ2.out]⟩
        case measure => simp [intOf]; omega
      · have hall : (flowOf fs).take k = flowOf fs := List.take_of_length_le (by rw [← OB5.out.1]; omega)
        rw [hall] at hv ⊢
        have hp : portOf fs = 49152 + (flowOf fs).foldl fnv 2166136261 % 16384 := by rw [portOf]
        generalize (flowOf fs).foldl fnv 2166136261 = z at hv hp ⊢
        have HPP := Lib.hid hp
        clear hall hp
        go_wp2_with fail
        go_ret
        refine ⟨?_, F5.out⟩
        rw [HPP.out]
        have e : ((49152 + z % 16384 : Nat) : Int) = 49152 + (z : Int) % 16384 := by omega
        rw [e]
        rfl
end Go.Proofs.Ythoppkklooomgaa