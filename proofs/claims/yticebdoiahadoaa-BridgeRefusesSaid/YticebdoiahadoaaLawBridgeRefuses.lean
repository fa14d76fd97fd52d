/- BridgeRefuses. -/
import Derived.Test.YticebdoiahadoaaBl7
import Derived.Test.YticebdoiahadoaaFd24l
import Derived.Test.YticebdoiahadoaaEqE
import Derived.Deep.DeepCutAuto
import Derived.Deep.CutBlock
namespace Go.Proofs.Yticebdoiahadoaa
open Go.RowKit
set_option linter.unusedVariables false
set_option linter.unusedSimpArgs false

/-- What is refused turns no row. -/
theorem refuse_same {room life : Int} {X : AB} (hg : Good X) {p : Int} {b : List UInt8} {now : Int} {r : AOut × Int × AB} (hr : aFromPort room life X p b now = r) (h0 : r.2.1 ≠ 0) :
    r.1 = noOut ∧ (r.2.1 = 6 ∨ r.2.1 = 2 ∨ r.2.1 = 7 ∨ r.2.1 = 3) ∧ ∀ n, okSeg n → (r.2.2.at n).A = (X.at n).A := by
  unfold aFromPort at hr
  cases hm : mget X.bd p with
  | none => rw [hm] at hr; subst hr; exact ⟨rfl, .inl rfl, fun n hn => rfl⟩
  | some i =>
    rw [hm] at hr
    simp only at hr
    have hi := (hg.bk p i hm).2
    have key : ∀ (A : AL) n, okSeg n → A = (X.at i).A → ((X.put i ⟨A, (X.at i).ps, (X.at i).qs⟩).at n).A = (X.at n).A := by
      intro A n hn hA
      rw [at_put hg.len hi hn]
      split
      · rename_i e; rw [e]; exact hA
      · rfl
    subst hr
    simp only at h0 ⊢
    unfold aFrame at h0 ⊢
    split
    · exact ⟨rfl, .inr (.inl rfl), fun n hn => key _ n hn rfl⟩
    · rename_i h1
      rw [if_neg h1] at h0
      split
      · exact ⟨rfl, .inr (.inr (.inl rfl)), fun n hn => key _ n hn rfl⟩
      · rename_i h2
        rw [if_neg h2] at h0
        split
        · exact ⟨rfl, .inr (.inr (.inr rfl)), fun n hn => key _ n hn rfl⟩
        · rename_i h3
          rw [if_neg h3] at h0
          exact absurd rfl h0
/-- The Lists of the first segments. -/
def RowsAt (B : Nat) (w : World) (g : Nat) (X : AB) (s : Nat) : Prop :=
  ∃ cs : List Value, w.heap[g]? = some (.cells cs.toArray 70 (0, 0)) ∧ cs.length = 8 ∧ ∀ i : Nat, i < s → ∃ ao cap, cs[i]? = some (.slice ao (X.at (i : Int)).A.length cap) ∧ Own w 73 10 ao (X.at (i : Int)).A.length cap ((X.at (i : Int)).A.flatMap encE) ∧ ∀ a, ao = some a → B ≤ a.block
theorem lists_ne : 70 ≠ 73 := by decide
theorem RowsAt.fr {B : Nat} {S : Nat → Prop} {w w' : World} {g : Nat} {X : AB} {s : Nat} (h : RowsAt B w g X s) (hf : Fr S w w') (h1 : ¬ S g) (h2 : ∀ k, k < w.heap.size → B ≤ k → ¬ S k) : RowsAt B w' g X s := by
  obtain ⟨cs, a1, a2, a3⟩ := h
  refine ⟨cs, hf.heap a1 h1, a2, fun i hi => ?_⟩
  obtain ⟨ao, cap, b1, b2, b3⟩ := a3 i hi
  exact ⟨ao, cap, b1, b2.fr hf (fun a ha => h2 _ (b2.lt a ha) (b3 a ha)), b3⟩
theorem RowsAt.no {B : Nat} {w w' : World} {g : Nat} {X : AB} {s : Nat} (h : RowsAt B w g X s) (hf : Fr No w w') : RowsAt B w' g X s := h.fr hf (fun h => h) (fun _ _ _ h => h)
theorem RowsAt.put {B : Nat} {w : World} {g : Nat} {X : AB} {s : Nat} (h : RowsAt B w g X s) (hs : s < 8) {ao : Option Addr} {cap : Nat} (ho : Own w 73 10 ao (X.at (s : Int)).A.length cap ((X.at (s : Int)).A.flatMap encE)) (hb : ∀ a, ao = some a → B ≤ a.block) : RowsAt B (w.setCell ⟨g, s, none⟩ (.slice ao (X.at (s : Int)).A.length cap)) g X (s + 1) := by
  obtain ⟨cs, a1, a2, a3⟩ := h
  have hne : ∀ {a : Option Addr} {n c : Nat} {xs : List Value}, Own w 73 10 a n c xs → Out (Is g) a := by
    intro a n c xs o x hx e
    obtain ⟨-, cur, h2, -⟩ := o.row x hx
    rw [show x.block = g from e, a1] at h2
    simp only [Option.some.injEq, Obj.cells.injEq] at h2
    exact lists_ne h2.2.1
  have f : Fr (Is g) w (w.setCell ⟨g, s, none⟩ (.slice ao (X.at (s : Int)).A.length cap)) := (Fr.refl (Is g) w).setCell (p := ⟨g, s, none⟩) (.inl rfl) _
  have hr := set_row a1 s (.slice ao (X.at (s : Int)).A.length cap)
  simp only [List.setIfInBounds_toArray] at hr
  refine ⟨_, hr, by rw [List.length_set]; exact a2, fun i hi => ?_⟩
  by_cases e : i = s
  · subst e
    exact ⟨ao, cap, by rw [List.getElem?_set, if_pos rfl, if_pos (by omega)], ho.fr f (hne ho), hb⟩
  · obtain ⟨ao', cap', b1, b2, b3⟩ := a3 i (by omega)
    exact ⟨ao', cap', by rw [List.getElem?_set, if_neg (fun h => e h.symm)]; exact b1, b2.fr f (hne b2), b3⟩
theorem RowsAt.cell {B : Nat} {w : World} {g : Nat} {X : AB} {s i : Nat} (h : RowsAt B w g X s) (hi : i < s) : ∃ ao cap, w.cell? ⟨g, i, none⟩ = some (.slice ao (X.at (i : Int)).A.length cap) ∧ Own w 73 10 ao (X.at (i : Int)).A.length cap ((X.at (i : Int)).A.flatMap encE) := by
  obtain ⟨cs, a1, a2, a3⟩ := h
  obtain ⟨ao, cap, b1, b2, -⟩ := a3 i hi
  exact ⟨ao, cap, by rw [cell_of_row w g i _ _ _ a1]; simpa using b1, b2⟩
theorem RowsAt.some_ {B : Nat} {w : World} {g : Nat} {X : AB} {s i : Nat} (h : RowsAt B w g X s) (hi : i < 8) : (∃ c, w.cell? ⟨g, i, none⟩ = some c) ∧ w.frozen? ⟨g, i, none⟩ = false := by
  obtain ⟨cs, a1, a2, a3⟩ := h
  exact ⟨⟨cs[i]'(by omega), by rw [cell_of_row w g i _ _ _ a1]; simp [List.getElem?_eq_getElem (show i < cs.length by omega)]⟩, frozen_of_row w g i _ _ a1⟩
/-- The cells of an entry of a List. -/
theorem ent_cells {w : World} {ao : Option Addr} {cap : Nat} {A : AL} (h : Own w 73 10 ao A.length cap (A.flatMap encE)) {k : Nat} {a b c d e f : UInt8} {tu st : Bool} {pn at_ : Int} (hi : A[k]? = some ⟨⟨a, b, c, d, e, f⟩, tu, pn, at_, st⟩) : ∃ g, ao = some ⟨g, 0, none⟩ ∧
    w.cell? ⟨g, k * 10, none⟩ = some (.int .u8 (a.toNat : Int)) ∧ w.cell? ⟨g, k * 10 + 1, none⟩ = some (.int .u8 (b.toNat : Int)) ∧ w.cell? ⟨g, k * 10 + 2, none⟩ = some (.int .u8 (c.toNat : Int)) ∧ w.cell? ⟨g, k * 10 + 3, none⟩ = some (.int .u8 (d.toNat : Int)) ∧
    w.cell? ⟨g, k * 10 + 4, none⟩ = some (.int .u8 (e.toNat : Int)) ∧ w.cell? ⟨g, k * 10 + 5, none⟩ = some (.int .u8 (f.toNat : Int)) ∧ w.cell? ⟨g, k * 10 + 6, none⟩ = some (.bool tu) ∧ w.cell? ⟨g, k * 10 + 7, none⟩ = some (.int .i64 pn) ∧ w.cell? ⟨g, k * 10 + 8, none⟩ = some (.int .u64 at_) ∧ w.cell? ⟨g, k * 10 + 9, none⟩ = some (.bool st) := by
  obtain ⟨g, hg, hc⟩ := own_entry h hi
  exact ⟨g, hg, hc 0 _ rfl, hc 1 _ rfl, hc 2 _ rfl, hc 3 _ rfl, hc 4 _ rfl, hc 5 _ rfl, hc 6 _ rfl, hc 7 _ rfl, hc 8 _ rfl, hc 9 _ rfl⟩

set_option maxRecDepth 100000 in
set_option maxHeartbeats 8000000 in
theorem BridgeRefuses_walk {w : World} (room : Int) {life : Int} (hl0 : 0 ≤ life) (hl1 : life < 18446744073709551616) {ao : Option Addr} {n cap : Nat} {xs : List St16} (hs : Rs16 w ao n cap xs) (port : Int) (hpo : okI port) {fo : Option Addr} {fn fc : Nat} {fs : List UInt8} (hfs : Bs w fo fn fc fs) :
    Calls Try.prog 7 #[.int .i64 room, .int .u64 life, .slice ao n cap, .int .i64 port, .slice fo fn fc] w fun e w' => e = .returned (.bool true) ∧ Fr No w w' := by
  have HS := Lib.hid hs
  have HN := Lib.hid hs.1
  have HPO := Lib.hid hpo
  have HFS := Lib.hid hfs
  have hle := hs.2.1
  have hcap := hs.2.2.1
  clear hs hpo hfs
  go_enter Try.func7, Try.ntmps7
  go_wp2_with fail
  refine (l16shown_any w).mono ?_
  rintro e w1 ⟨rfl, f1⟩
  go_wp2_with fail
  obtain ⟨rm, hrm⟩ : ∃ rm, min (max room 1) 64 = rm := ⟨_, rfl⟩
  refine (bgNew_z w1 room life hl0 hl1 hrm).mono ?_
  rintro e w2 ⟨bb, rfl, h2, f2⟩
  have H := Lib.hid (h2.less (Z' := fun k => k < w.heap.size) (fun k hk => Nat.lt_of_lt_of_le hk f1.size))
  have FF := Lib.hid (f1.trans f2)
  clear h2 f1 f2 hrm
  go_upto_block 0 with fail
  go_cut [13] (fun t13 wc => ∃ (nw : Int) (X : AB), t13 = .int .u64 nw ∧ 0 ≤ nw ∧ nw ≤ 25500 ∧ BrZ (fun k => k < w.heap.size) wc bb rm life X ∧ Stl X ∧ Fr No w wc)
  case first =>
    go_wp2_with fail
    go_loopw [13, 14] (fun t13 t14 wr => ∃ (k : Nat) (nw : Int) (X : AB), k ≤ n ∧ k ≤ 100 ∧ t14 = .int .i64 k ∧ t13 = .int .u64 nw ∧ 0 ≤ nw ∧ nw ≤ 255 * (k : Int) ∧ BrZ (fun k => k < w.heap.size) wr bb rm life X ∧ Stl X ∧ Fr No w wr) (fun _ t14 _ => n - (intOf t14).toNat)
    case atStart => exact ⟨0, 0, AB.new, by omega, by omega, rfl, rfl, by omega, by omega, H.out, Stl.new, FF.out⟩
    case round =>
      clear H FF
      obtain ⟨k, nw, X, hk, hk2, rfl, rfl, hw0, hw1, h4, st4, f4⟩ := hrel
      have ST4 := Lib.hid st4
      have H4 := Lib.hid h4
      have F4 := Lib.hid f4
      clear h4 f4 st4
      by_cases hlt : k < n ∧ k < 100
      · obtain ⟨l1, l2⟩ := hlt
        obtain ⟨x, hx⟩ : ∃ x, xs[k]? = some x := ⟨xs[k]'(by rw [← HN.out]; exact l1), List.getElem?_eq_getElem _⟩
        have HXO := Lib.hid (HS.out.2.2.2.2.2 x (List.mem_of_getElem? hx))
        cases ao with
        | none => exfalso; have := HS.out.2.2.2.1 rfl; omega
        | some a =>
          obtain ⟨bo, bcap, c0, c1, c2, c3, c4, hbx⟩ := HS.out.2.2.2.2.1 a rfl k x hx
          have c0 := F4.out.cell c0 (fun h => h)
          have c1 := F4.out.cell c1 (fun h => h)
          have c2 := F4.out.cell c2 (fun h => h)
          have c3 := F4.out.cell c3 (fun h => h)
          have c4 := F4.out.cell c4 (fun h => h)
          have hsp : (a.add (k * 5)).spot = none := World.cell?_spot c0
          obtain ⟨⟨ab, aoff, asp⟩, ha⟩ : ∃ b, a.add (k * 5) = b := ⟨_, rfl⟩
          rw [ha] at c0 c1 c2 c3 c4 hsp
          simp only at hsp c0 c1 c2 c3 c4
          subst hsp
          have HBX := Lib.hid (hbx.no F4.out)
          have by0 : (x.by_.toNat : Int) < 256 := by have := x.by_.toNat_lt; omega
          have by1 : (0 : Int) ≤ (x.by_.toNat : Int) := by omega
          obtain ⟨bl, hbl⟩ : ∃ m, x.b.length = m := ⟨_, rfl⟩
          have HBL := Lib.hid hbl
          rw [hbl] at c3
          clear hx hbx hbl
          go_wp2_with fail
          obtain ⟨r, hr⟩ : ∃ r, aDoes rm life X x (nw + (x.by_.toNat : Int)) = r := ⟨_, rfl⟩
          have ST5 := Lib.hid (show Stl r.2.2 by rw [← hr]; exact Stl.does H4.out.good ST4.out _ _ _ _)
          have HRR := Lib.hid hr
          have CA := l16does_z H4.out x HXO.out HBX.out (now := nw + (x.by_.toNat : Int)) (by omega) (by omega) HRR.out
          rw [HBL.out] at CA
          refine CA.mono ?_
          clear CA hr c0 c1 c2 c3 c4
          rintro e w5 ⟨po, pc, qo, qc, rfl, cp, cq, h5, f5⟩
          have F5 := Lib.hid (F4.out.then f5 (fun i hi h => h hi))
          have H5 := Lib.hid (h5.less (Z' := fun k => k < w.heap.size) (fun k hk => .inl hk))
          clear cp cq h5 f5 H4 F4 HBX
          go_wp2_with fail
          go_roundw
          case rel => exact ⟨k + 1, nw + (x.by_.toNat : Int), r.2.2, by omega, by omega, by go_num, rfl, by omega, by omega, H5.out, ST5.out, F5.out⟩
          case measure => simp [intOf]; omega
      · have hst : ¬ k < n ∨ (k < n ∧ ¬ k < 100) := by omega
        rcases hst with l1 | ⟨l1, l2⟩
        all_goals
          go_wp2_with fail
          go_meet
          exact ⟨nw, X, rfl, hw0, by omega, H4.out, ST4.out, F4.out⟩
  case rest =>
    clear H FF
    obtain ⟨nw, X, rfl, hw0, hw1, h4, st4, f4⟩ := hcut
    have H4 := Lib.hid h4
    have F4 := Lib.hid f4
    have HF4 := Lib.hid (HFS.out.no f4)
    clear h4 f4 st4 hle hcap HS HN HFS
    generalize wc = w4 at H4 F4 HF4 ⊢
    have hg := heap_alloc_new w4 (.cells #[.slice none 0 0, .slice none 0 0, .slice none 0 0, .slice none 0 0, .slice none 0 0, .slice none 0 0, .slice none 0 0, .slice none 0 0] 70)
    have hfg := (Fr.refl No w4).alloc (.cells #[.slice none 0 0, .slice none 0 0, .slice none 0 0, .slice none 0 0, .slice none 0 0, .slice none 0 0, .slice none 0 0, .slice none 0 0] 70)
    go_wp2_with fail
    generalize World.alloc _ _ = w5 at hg hfg ⊢
    obtain ⟨gb, hgb⟩ : ∃ g, w4.heap.size = g := ⟨_, rfl⟩
    rw [hgb] at hg ⊢
    have R5 : Hid (RowsAt gb w5 gb X 0) := Lib.hid ⟨_, hg, rfl, fun i hi => by omega⟩
    have F5 := Lib.hid hfg
    have HGB := Lib.hid hgb
    clear hg hfg hgb
    go_loopw [16] (fun t16 wr => ∃ s : Nat, s ≤ 8 ∧ t16 = .int .i64 s ∧ RowsAt gb wr gb X s ∧ Fr No w4 wr) (fun t16 _ => 8 - (intOf t16).toNat)
    case atStart => exact ⟨0, by omega, rfl, R5.out, F5.out⟩
    case round =>
      obtain ⟨s, hs8, rfl, hr, f6⟩ := hrel
      have R6 := Lib.hid hr
      have F6 := Lib.hid f6
      clear hr f6 R5 F5
      by_cases hs : s < 8
      · have HSG : Hid (okSeg (s : Int)) := Lib.hid ⟨by omega, by omega⟩
        obtain ⟨bn, mn, LN, hbs, hfd, hab, hbz⟩ := bgBase_fd (H4.out.no F6.out) HSG.out
        have HBS := Lib.hid hbs
        have HFD := Lib.hid hfd
        have HAB := Lib.hid hab
        clear hbs hfd hab hbz
        go_wp2_with fail
        refine (HBS.out _ (Fr.refl _ _)).mono ?_
        rintro e w8 ⟨rfl, rfl⟩
        go_wp2_with fail
        refine (fbList_at HFD.out HAB.out).mono ?_
        rintro e w8 ⟨la, lc, rfl, lo, lnew, lf⟩
        have R8 := Lib.hid (R6.out.no lf)
        obtain ⟨⟨c8, hc8⟩, hz8⟩ := R8.out.some_ hs
        have s1 : (s : Int) < 8 := by omega
        have hsz := (F6.out).size
        have NX : Hid (RowsAt gb (w8.setCell ⟨gb, s, none⟩ (.slice la (X.at (s : Int)).A.length lc)) gb X (s + 1)) := Lib.hid (R8.out.put hs lo (fun a ha => by have h1 := lnew a ha; have h2 := HGB.out; omega))
        have FX : Hid (Fr No w4 (w8.setCell ⟨gb, s, none⟩ (.slice la (X.at (s : Int)).A.length lc))) := Lib.hid ((F6.out.trans lf).setCell (p := ⟨gb, s, none⟩) (.inr (by rw [HGB.out]; exact Nat.le_refl _)) _)
        generalize (X.at (s : Int)).A.length = ln at NX FX ⊢
        clear lo lnew lf hsz HFD HAB HBS R6 F6
        go_wp2_with fail
        go_roundw
        case rel => exact ⟨s + 1, by omega, by go_num, NX.out, FX.out⟩
        case measure => simp [intOf]; omega
      · have R6 : Hid (RowsAt gb wr gb X 8) := Lib.hid ((show s = 8 by omega) ▸ R6.out)
        obtain ⟨Z1, hz1⟩ : ∃ Z1 : Nat → Prop, (fun k => k < w.heap.size ∨ (w4.heap.size ≤ k ∧ k < wr.heap.size)) = Z1 := ⟨_, rfl⟩
        have H6 : Hid (BrZ Z1 wr bb rm life X) := Lib.hid (by rw [← hz1]; exact H4.out.more F6.out)
        have Z0 : Hid (∀ k, k < w.heap.size → Z1 k) := Lib.hid (fun k hk => by rw [← hz1]; exact .inl hk)
        have ZR : Hid (∀ k, k < wr.heap.size → gb ≤ k → Z1 k) := Lib.hid (fun k hk hk2 => by rw [← hz1]; exact .inr ⟨by have := HGB.out; omega, hk⟩)
        have ZG : Hid (Z1 gb) := Lib.hid (by
          obtain ⟨cs, a1, -⟩ := R6.out
          exact ZR.out gb (lt_of_heap a1) (Nat.le_refl _))
        have FF6 := Lib.hid (F4.out.trans F6.out)
        have HB6 := Lib.hid (HF4.out.no F6.out)
        clear hz1 H4 F4 HF4 F6
        obtain ⟨⟨⟨rps, rqs, rf⟩, rc, X'⟩, hr⟩ : ∃ r, aFromPort rm life X port fs nw = r := ⟨_, rfl⟩
        have HG := Lib.hid H6.out.good
        have HR := Lib.hid hr
        clear hr
        go_wp2_with fail
        refine (bgFromPort_z H6.out HPO.out HB6.out (now := nw) (by omega) (by omega) HR.out).mono ?_
        rintro e w7 ⟨po, pc, qo, qc, rfl, cp, cq, h7, f7⟩
        dsimp only at cp cq h7 ⊢
        have fa := (Fr.refl No w7).alloc (.cells #[.slice po rps.length pc, .slice qo rqs.length qc, .bool rf] 34)
        have RO := Lib.hid (heap_alloc_new w7 (.cells #[.slice po rps.length pc, .slice qo rqs.length qc, .bool rf] 34))
        have H7 := Lib.hid ((h7.less (Z' := fun k => k < w.heap.size) (fun k hk => .inl (Z0.out k hk))).no fa)
        have R7 := Lib.hid ((R6.out.fr f7 (fun h => h ZG.out) (fun k hk hk2 h => h (ZR.out k hk hk2))).no fa)
        have F7 := Lib.hid ((FF6.out.then f7 (fun i hi h => h (Z0.out i hi))).trans fa)
        clear cp cq h7 f7 fa H6 R6 FF6 HB6 Z0 ZR ZG
        by_cases hc : rc = 0
        · subst hc
          go_wp2_with fail
          go_ret
          exact ⟨rfl, F7.out⟩
        · have hc' : (rc == 0) = false := by simpa using hc
          obtain ⟨hno, hcode, hsame⟩ := refuse_same HG.out HR.out hc
          simp only at hno hcode hsame
          cases hno
          have HCO := Lib.hid hcode
          have HSA := Lib.hid hsame
          clear hcode hsame HR HG
          simp only [List.length_nil] at RO H7 R7 F7 ⊢
          go_wp2_with fail
          generalize World.alloc _ _ = w8 at RO H7 R7 F7 ⊢
          generalize w7.heap.size = ob at RO ⊢
          go_loopw [19] (fun t19 wr => ∃ s : Nat, s ≤ 8 ∧ t19 = .int .i64 s ∧ Fr No w8 wr) (fun t19 _ => 8 - (intOf t19).toNat)
          case atStart => exact ⟨0, by omega, rfl, Fr.refl _ _⟩
          case round =>
            obtain ⟨s, hs8, rfl, f9⟩ := hrel
            have H9 := Lib.hid (H7.out.no f9)
            have R9 := Lib.hid (R7.out.no f9)
            have F9 := Lib.hid (F7.out.trans f9)
            have O9 := Lib.hid (f9.heap RO.out (fun h => h))
            have G9 := Lib.hid f9
            clear f9
            by_cases hs : s < 8
            · have HSG : Hid (okSeg (s : Int)) := Lib.hid ⟨by omega, by omega⟩
              obtain ⟨bn, mn, LN, hbs, hfd, hab, hbz⟩ := bgBase_fd H9.out HSG.out
              rw [HSA.out _ HSG.out] at hab
              have HBS := Lib.hid hbs
              have HFD := Lib.hid hfd
              have HAB := Lib.hid hab
              clear hbs hfd hab hbz
              go_wp2_with fail
              refine (HBS.out _ (Fr.refl _ _)).mono ?_
              rintro e w10 ⟨rfl, rfl⟩
              go_wp2_with fail
              refine (fbList_at HFD.out HAB.out).mono ?_
              rintro e w10 ⟨la, lc, rfl, lo, lnew, lf⟩
              have R10 := Lib.hid (R9.out.no lf)
              have G10 := Lib.hid (G9.out.trans lf)
              have F10 := Lib.hid (F9.out.trans lf)
              obtain ⟨va, vc, vcell, vo⟩ := R10.out.cell hs
              have lle := lo.le
              have lcl := lo.capLe
              have vle := vo.le
              have vcl := vo.capLe
              obtain ⟨A, hA⟩ : ∃ A, (X.at (s : Int)).A = A := ⟨_, rfl⟩
              rw [hA] at lo vo vcell lle vle ⊢
              have LO := Lib.hid lo
              have VO := Lib.hid vo
              obtain ⟨ln, hln⟩ : ∃ m, A.length = m := ⟨_, rfl⟩
              have HLN := Lib.hid hln
              rw [hln] at lle vle vcell ⊢
              have VC := Lib.hid vcell
              have s0 : (0 : Int) ≤ (s : Int) := by omega
              have s1 : (s : Int) < 8 := by omega
              have nn : ((ln : Int) != (ln : Int)) = false := by simp
              clear hA hln lo vo lnew lf HFD HAB HBS H9 R9 F9 G9
              go_wp2_with fail
              clear nn
              go_loopw [21] (fun t21 wr3 => ∃ k : Nat, k ≤ ln ∧ t21 = .int .i64 k ∧ Fr No w10 wr3) (fun t21 _ => ln - (intOf t21).toNat)
              case atStart => exact ⟨0, by omega, rfl, Fr.refl _ _⟩
              case round =>
                obtain ⟨k, hk, rfl, f11⟩ := hrel
                have G11 := Lib.hid (G10.out.trans f11)
                have F11 := Lib.hid f11
                have vcell := f11.cell VC.out (fun h => h)
                by_cases hkl : k < ln
                · obtain ⟨e, he⟩ : ∃ e, A[k]? = some e := ⟨A[k]'(by rw [HLN.out]; exact hkl), List.getElem?_eq_getElem _⟩
                  obtain ⟨⟨a, b, c, d, e, f⟩, tu, pn, at_, st⟩ := e
                  obtain ⟨g1, hg1, x0, x1, x2, x3, x4, x5, x6, x7, x8, x9⟩ := ent_cells (LO.out.no f11) he
                  obtain ⟨g2, hg2, y0, y1, y2, y3, y4, y5, y6, y7, y8, y9⟩ := ent_cells (VO.out.no f11) he
                  have hne : ∀ W, (binOp .neq 73 (.agg #[.int .u8 (a.toNat : Int), .int .u8 (b.toNat : Int), .int .u8 (c.toNat : Int), .int .u8 (d.toNat : Int), .int .u8 (e.toNat : Int), .int .u8 (f.toNat : Int), .bool tu, .int .i64 pn, .int .u64 at_, .bool st]) (.agg #[.int .u8 (a.toNat : Int), .int .u8 (b.toNat : Int), .int .u8 (c.toNat : Int), .int .u8 (d.toNat : Int), .int .u8 (e.toNat : Int), .int .u8 (f.toNat : Int), .bool tu, .int .i64 pn, .int .u64 at_, .bool st])).run Try.prog W = .ok (.bool false) W := fun W => neqE_self ⟨⟨a, b, c, d, e, f⟩, tu, pn, at_, st⟩ W
                  have k1 : (k : Int) < (ln : Int) := by omega
                  have k0 : (0 : Int) ≤ (k : Int) := by omega
                  subst hg1
                  subst hg2
                  clear he f11
                  go_wp2_with fail
                  go_quiet (fail)
                  go_wp2_with fail
                  go_roundw
                  case rel => exact ⟨k + 1, by omega, by go_num, F11.out.drewN _⟩
                  case measure => simp [intOf]; omega
                · have hkl2 : k = ln := by omega
                  clear hkl2 f11 vcell
                  go_wp2_with fail
                  go_roundw
                  case rel => exact ⟨s + 1, by omega, by go_num, G11.out⟩
                  case measure => simp [intOf]; omega
            · obtain rfl : s = 8 := by omega
              obtain ⟨o0, o1, o2⟩ := cells3 O9.out
              rcases HCO.out with rfl | rfl | rfl | rfl
              all_goals
                go_wp2_with fail
                go_ret
                exact ⟨rfl, F9.out⟩
end Go.Proofs.Yticebdoiahadoaa
