/- TunnelSeq: the walk. -/
import Derived.Test.YthoppkklooomgaaTnSeq
namespace Go.Proofs.Ythoppkklooomgaa
open Go.RowKit
set_option linter.unusedVariables false
set_option linter.unusedSimpArgs false
set_option maxRecDepth 100000 in
set_option maxHeartbeats 3200000 in
theorem TunnelSeq_walk {w : World} (q : Bool) {ao : Option Addr} {n cap : Nat} {xs : List Int} (hx : Zs w ao n cap xs) :
    Calls Try.prog 6 #[.bool q, .slice ao n cap] w (SeqOk w) := by
  have HZ := Lib.hid hx
  have z1 := hx.2.le
  have z2 := hx.2.capLe
  clear hx
  go_enter Try.func6, Try.ntmps6
  go_wp2_with fail
  refine (shown14_any w).mono ?_
  rintro r w0 ⟨rfl, f0⟩
  have F0 := Lib.hid f0
  clear f0
  go_wp2_with fail
  refine (tnNew_any w0).mono ?_
  rintro r w1 ⟨ta, SA, rfl, h1, f1, n1⟩
  have HA := Lib.hid h1
  have F1 := Lib.hid (F0.out.trans f1)
  have NA := Lib.hid (show NewS w.heap.size SA from fun k hk => Nat.le_trans F0.out.size (n1 k hk))
  clear h1 f1 n1 F0
  go_wp2_with fail
  refine (tnNew_any w1).mono ?_
  rintro r w2 ⟨tb, SB, rfl, h2, f2, n2⟩
  have F2 := Lib.hid (F1.out.trans f2)
  have NB := Lib.hid (show NewS w.heap.size SB from fun k hk => Nat.le_trans F1.out.size (n2 k hk))
  have HT := Lib.hid (show Two SA SB w2 ta tb ⟨[], 0⟩ ⟨[], 0⟩ from ⟨HA.out.no f2, h2, fun k ha hb => by have := HA.out.lt k ha; have := n2 k hb; omega⟩)
  clear h2 f2 n2 HA F1
  go_wp2_with fail
  refine (tnAdd_any HT.out.a (by show 0 < _; omega) (t := T5 q) (fun W f => TnRd.bare W (ok5 q).1 rfl rfl)).mono ?_
  rw [s5a]
  rintro r w4 ⟨rfl, -, SA4, a4, f4, s4, -⟩
  have TW4 := Lib.hid (HT.out.stepA a4 f4 s4)
  have NA4 := Lib.hid (NA.out.more s4 F2.out.size)
  have F4 := Lib.hid (F2.out.newS f4 NA.out)
  clear a4 f4 s4 HT F2 NA
  go_wp2_with fail
  refine (tnAdd_any TW4.out.b (by show 0 < _; omega) (t := U5 q) (fun W f => TnRd.bare W (ok5 q).2 rfl rfl)).mono ?_
  rw [s5b]
  rintro r w5 ⟨rfl, -, SB5, a5, f5, s5, -⟩
  have TW5 := Lib.hid (TW4.out.stepB a5 f5 s5)
  have NB5 := Lib.hid (NB.out.more s5 F4.out.size)
  have F5 := Lib.hid (F4.out.newS f5 NB.out)
  clear a5 f5 s5 TW4 F4 NB
  go_wp2_with fail
  go_loopw [12, 13] (fun s12 s13 wr => ∃ (i : Nat) (lo : Option Addr) (lc : Nat) (gs : List (Nat × Nat)), i ≤ 30 ∧ s13 = .int .i64 i ∧ s12 = .slice lo i lc ∧ Pks (fun k => SA4 k ∨ SB5 k) w.heap.size wr q lo i lc gs ∧ Two SA4 SB5 wr ta tb (A5 q i) (B5 q none) ∧ Fr No w wr) (fun _ s13 _ => 30 - (intOf s13).toNat)
  case atStart => exact ⟨0, none, 0, [], by omega, rfl, rfl, ⟨rfl, Own.nil _ _ _, fun a h => (by cases h), fun k g h => (by simp at h)⟩, TW5.out, F5.out⟩
  case round =>
    clear TW5 F5
    obtain ⟨i, lo, lc, gs, hi, rfl, rfl, hp, ht, hf⟩ := hrel
    have PK := Lib.hid hp
    have TW := Lib.hid ht
    have FW := Lib.hid hf
    clear hp ht hf
    by_cases hlt : i < 30
    · obtain ⟨m, hm⟩ : ∃ m, m = 14 + i := ⟨_, rfl⟩
      have hmk := mkN wr (n := m) (by omega)
      have hw : IntKind.i64.wrap (14 + (i : Int)) = (m : Int) := by rw [IntKind.wrap_i64]; omega
      have hw2 : (14 : Int) + (i : Int) = (m : Int) := by omega
      have ZN := Lib.hid (ob_zeros wr (n := m) (by omega))
      have hs5 : (A5 q i).encap 0 (zeros m) = (A5 q (i + 1), .ok (P5 q i)) := by rw [hm]; exact s5c q hlt
      have hsz : sizN (zeros m) = 0 := by rw [hm]; exact siz5 hlt
      have HS5 := Lib.hid hs5
      have HSZ := Lib.hid hsz
      have fz := (Fr.refl No wr).alloc (.cells (madeCells #[.int .u8 0] m) 5)
      have TWz := Lib.hid (TW.out.no fz)
      have PKz := Lib.hid (PK.out.no fz)
      have FWz := Lib.hid (FW.out.trans fz)
      have LTA : Hid (∀ k, SA4 k → k < wr.heap.size) := Lib.hid TW.out.a.lt
      have LTB : Hid (∀ k, SB5 k → k < wr.heap.size) := Lib.hid TW.out.b.lt
      have hsz2 : wr.heap.size < (wr.alloc (.cells (madeCells #[.int .u8 0] m) 5)).heap.size := by simp
      clear fz hs5 hsz hm
      go_wp2_with fail
      refine (tnEncap_ok TWz.out.a (n := 0) (by unfold okK; omega) (e := ⟨T5 q, i, none⟩) rfl (fun W f => (ZN.out.fr f (fun a ha hs => by cases ha; have := LTA.out _ hs; simp at this)).bs) HSZ.out).mono ?_
      rw [HS5.out]
      rintro r w6 ⟨a6, f6, hm6⟩
      simp only at a6 hm6
      obtain ⟨g, gc, rfl, ob6, hg6⟩ := hm6
      have TW6 := Lib.hid (TWz.out.stepA a6 f6 (fun k hk => .inl hk))
      have F6 := Lib.hid (FWz.out.newS f6 NA4.out)
      have OB6 := Lib.hid ob6
      have PK6 := Lib.hid (PKz.out.fr f6 (fun k _ _ h => .inl h) (fun k h => .inl h))
      have hgX : Hid (¬ (SA4 g ∨ SB5 g)) := Lib.hid (fun h => by rcases h with h | h; have := LTA.out _ h; omega; have := LTB.out _ h; omega)
      have hgB : w.heap.size ≤ g := Nat.le_trans FWz.out.size hg6
      have hgL : Hid (∀ a, lo = some a → a.block ≠ g) := Lib.hid (fun a ha => by have := PKz.out.own.lt a ha; omega)
      have hgl6 : g < w6.heap.size := ob6.2.lt ⟨g, 0, none⟩ rfl
      clear a6 f6 ob6 hmk hw hsz2 TWz FWz PKz
      go_upto_region 15 with fail
      have f7 := (Fr.refl No w6).alloc (.cells #[.int .u32 ((P5 q i).src : Int), .int .u32 ((P5 q i).dst : Int), .int .u8 ((P5 q i).proto : Int), .int .u16 ((P5 q i).sport : Int), .int .u16 ((P5 q i).dport : Int), .slice (some ⟨g, 0, none⟩) (P5 q i).b.length gc] 41)
      have Q7 := heap_alloc_new w6 (.cells #[.int .u32 ((P5 q i).src : Int), .int .u32 ((P5 q i).dst : Int), .int .u8 ((P5 q i).proto : Int), .int .u16 ((P5 q i).sport : Int), .int .u16 ((P5 q i).dport : Int), .slice (some ⟨g, 0, none⟩) (P5 q i).b.length gc] 41)
      obtain ⟨c0, c1, c2, c3, c4, c5⟩ := cells6' Q7
      have TW7 := Lib.hid (TW6.out.no f7)
      have F7 := Lib.hid (F6.out.trans f7)
      have OB7 := Lib.hid (OB6.out.no f7)
      have PK7 := Lib.hid (PK6.out.no f7)
      clear f7 Q7 TW6 F6 OB6 PK6
      generalize hqe : w6.heap.size = z at *
      generalize w6.alloc (.cells #[.int .u32 ((P5 q i).src : Int), .int .u32 ((P5 q i).dst : Int), .int .u8 ((P5 q i).proto : Int), .int .u16 ((P5 q i).sport : Int), .int .u16 ((P5 q i).dport : Int), .slice (some ⟨g, 0, none⟩) (P5 q i).b.length gc] 41) = w7 at *
      clear hqe
      go_wp2_with (at_builtin; refine wpl_append_pk (.tmp 66) (.tmp 68) rfl rfl rfl rfl (PK7.out.own.no ((Fr.refl No _).alloc _)) (Own.made (w := w7) (e := 41) (size := 6) _ 1 rfl (by decide)).sl rfl (pkC_one (P5 q i) g gc) (by omega) ?_; intro lo' lc' w8 ho8 f8 hd8)
      go_roundw
      case rel =>
        have fa := (Fr.refl No w7).alloc (.cells #[.int .u32 ((P5 q i).src : Int), .int .u32 ((P5 q i).dst : Int), .int .u8 ((P5 q i).proto : Int), .int .u16 ((P5 q i).sport : Int), .int .u16 ((P5 q i).dport : Int), .slice (some ⟨g, 0, none⟩) (P5 q i).b.length gc] 41)
        have pa := PK7.out.no fa
        have ta' := TW7.out.no fa
        have ga := F7.out.trans fa
        refine ⟨i + 1, lo', lc', gs ++ [(g, gc)], by omega, by go_num, rfl, Pks.more pa ga.size (fun k hk => hk.elim (ta'.a.lt k) (ta'.b.lt k)) ho8 f8 hd8 (OB7.out.no fa) hgB hgX.out hgL.out, ⟨ta'.a.fr f8 ?_, ta'.b.fr f8 ?_, ta'.dis⟩, ga.then f8 ?_⟩
        · rintro k hk ⟨a, ha, rfl⟩; exact (pa.new a ha).2 (.inl hk)
        · rintro k hk ⟨a, ha, rfl⟩; exact (pa.new a ha).2 (.inr hk)
        · rintro k hk ⟨a, ha, rfl⟩; have := (pa.new a ha).1; omega
      case measure => simp [intOf]; omega
    · have hi30 : i = 30 := by omega
      have hge : ¬ (i : Int) < 30 := by omega
      clear hlt hi
      have PK0 := Lib.hid (PK.out.fr (Fr.refl No wr) (fun _ _ _ h => h.elim) (X' := SB5) (fun k h => .inl (.inr h)))
      have TB0 := Lib.hid TW.out.b
      clear PK TW
      go_wp2_with fail
      go_loopw [16, 17] (fun s16 s17 wq => ∃ (j : Nat) (la : Int) (st : Option Nat) (S2 : Nat → Prop), s17 = .int .i64 j ∧ j ≤ n ∧ j ≤ 100 ∧ s16 = .int .i64 la ∧ La q st la ∧ Pks S2 w.heap.size wq q lo i lc gs ∧ Tb S2 wq tb (B5 q st) ∧ NewS w.heap.size S2 ∧ Fr No w wq) (fun _ s17 _ => n - (intOf s17).toNat)
      case atStart => exact ⟨0, -1, none, SB5, rfl, by omega, by omega, rfl, ⟨fun _ => .inl ⟨rfl, rfl⟩, fun _ => rfl, by omega, by omega⟩, PK0.out, TB0.out, NB5.out, FW.out⟩
      case round =>
        clear PK0 TB0 NB5 FW NA4
        obtain ⟨j, la, st, S2, rfl, hj1, hj2, rfl, hla, hp, ht, hn, hf⟩ := hrel
        have PK := Lib.hid hp
        have TB := Lib.hid ht
        have NS := Lib.hid hn
        have FW := Lib.hid hf
        obtain ⟨la1, la2, la3, la4⟩ := hla
        clear hp ht hf hn
        by_cases hlt : j < n ∧ j < 100
        · obtain ⟨hl1, hl2⟩ := hlt
          obtain ⟨xg, xo, x, rfl, hx⟩ := (HZ.out.no FW.out).at hl1
          obtain ⟨k, hk⟩ : ∃ k : Nat, (k : Int) = (x % 65536) % 30 := ⟨((x % 65536) % 30).toNat, by omega⟩
          have hk30 : k < 30 := by omega
          have hki : (k : Int) < (i : Int) := by omega
          have hand := i64_mask16 x
          have hrem : (x % 65536).tmod 30 = (k : Int) := by rw [Int.tmod_eq_emod_of_nonneg (by omega)]; omega
          clear hk
          obtain ⟨lb, loff, g, gc, rfl, hgk, c0, c1, c2, c3, c4, c5⟩ := PK.out.cells (by omega : k < i)
          obtain ⟨og, -, og3, -⟩ := PK.out.each k (g, gc) hgk
          have OG := Lib.hid og
          have LEN := P5_len q hk30
          clear og hgk
          go_wp2_with fail
          have hpk : PkRd wr (P5 q k) (some ⟨g, 0, none⟩) (P5 q k).b.length gc := ⟨OG.out.bs, LEN, by show 1 < 4294967296; omega, by show 2 < 4294967296; omega⟩
          have HPK := Lib.hid hpk
          clear hpk hand hrem c0 c1 c2 c3 c4 c5 hx
          have hPL : ∀ (S3 : Nat → Prop) w3, Fr S2 wr w3 → (∀ k, S3 k → S2 k ∨ wr.heap.size ≤ k) → Pks S3 w.heap.size w3 q (some ⟨lb, loff, none⟩) i lc gs := fun S3 w3 hf hs => PK.out.fr hf (fun k _ _ h => h) hs
          have PL := Lib.hid hPL
          clear hPL
          by_cases hlate : q = true ∧ ∃ l, st = some l ∧ k ≤ l
          · obtain ⟨rfl, l, rfl, hkl⟩ := hlate
            have hl30 : l < 30 ∧ la = (l : Int) := by
              rcases la1 rfl with ⟨h, -⟩ | ⟨l', h1, h2, h3⟩
              · cases h
              · cases h2; exact ⟨h1, h3⟩
            obtain ⟨hl3, rfl⟩ := hl30
            refine (tnDecap_any TB.out (by show 1 < _; omega) (p := P5 true k) HPK.out).mono ?_
            rw [s5late hl3 hkl]
            rintro r w6 ⟨S3, b3, f3, s3, s3', v, rfl, he⟩
            obtain ⟨eb, rfl⟩ := he.wrongT
            have PK3 := Lib.hid (PL.out S3 w6 f3 s3)
            have TB3 := Lib.hid b3
            have NS3 := Lib.hid (NS.out.more s3 FW.out.size)
            have FW3 := Lib.hid (FW.out.newS f3 NS.out)
            have HE := Lib.hid he
            have hkl' : (k : Int) ≤ (l : Int) := by omega
            clear b3 f3 s3 s3' he PK TB NS FW HPK OG PL LEN la1 la2
            go_wp2_with (go_at_call 16; refine (errIs_any HE.out 13).mono ?_; rintro e w13 ⟨rfl, rfl⟩)
            go_roundw
            case rel => exact ⟨j + 1, (l : Int), some l, S3, by go_num, by omega, by omega, rfl, ⟨fun _ => .inr ⟨l, hl3, rfl, rfl⟩, fun h => (by cases h), la3, la4⟩, PK3.out, TB3.out, NS3.out, FW3.out⟩
            case measure => simp [intOf]; omega
          · have hok : ∀ l, st = some l → l < k := by
              intro l hl
              cases q with
              | true =>
                have : ¬ k ≤ l := fun h => hlate ⟨rfl, l, hl, h⟩
                omega
              | false => rw [la2 rfl] at hl; cases hl
            have hla : q = true → la < (k : Int) := by
              intro hq
              rcases la1 hq with ⟨-, h⟩ | ⟨l, -, h2, h3⟩
              · omega
              · have := hok l h2; omega
            obtain ⟨m, hm⟩ : ∃ m, m = 14 + k := ⟨_, rfl⟩
            have zl : (zeros (14 + k)).length = m := by rw [zeros_length, hm]
            have hw : IntKind.i64.wrap (14 + (k : Int)) = (m : Int) := by rw [IntKind.wrap_i64]; omega
            have hw2 : (14 : Int) + (k : Int) = (m : Int) := by omega
            refine (tnDecap_any TB.out (by show 1 < _; omega) (p := P5 q k) HPK.out).mono ?_
            rw [s5ok q hk30 la2 hok]
            rintro r w6 ⟨S3, b3, f3, s3, s3', g8, gc8, he, -⟩
            rw [zl] at he
            subst he
            have PK3 := Lib.hid (PL.out S3 w6 f3 s3)
            have TB3 := Lib.hid b3
            have NS3 := Lib.hid (NS.out.more s3 FW.out.size)
            have FW3 := Lib.hid (FW.out.newS f3 NS.out)
            clear b3 f3 s3 s3' PK TB NS FW HPK OG PL LEN la1 la2 hok hlate zl hm
            cases q with
            | true =>
              have hlk : ¬ (k : Int) ≤ la := by have := hla rfl; omega
              have hlk2 : la ≤ (k : Int) := by omega
              clear hla
              go_wp2_with fail
              go_roundw
              case rel => exact ⟨j + 1, (k : Int), some k, S3, by go_num, by omega, by omega, rfl, ⟨fun _ => .inr ⟨k, hk30, rfl, rfl⟩, fun h => (by cases h), by omega, by omega⟩, PK3.out, TB3.out, NS3.out, FW3.out⟩
              case measure => simp [intOf]; omega
            | false =>
              clear hla
              rcases Int.lt_trichotomy la (k : Int) with hmx | rfl | hmx
              · have hlk : ¬ (k : Int) ≤ la := by omega
                have hlk2 : la ≤ (k : Int) := by omega
                go_wp2_with fail
                go_roundw
                case rel => exact ⟨j + 1, (k : Int), none, S3, by go_num, by omega, by omega, rfl, ⟨fun h => (by cases h), fun _ => rfl, by omega, by omega⟩, PK3.out, TB3.out, NS3.out, FW3.out⟩
                case measure => simp [intOf]; omega
              · go_wp2_with fail
                go_roundw
                case rel => exact ⟨j + 1, (k : Int), none, S3, by go_num, by omega, by omega, rfl, ⟨fun h => (by cases h), fun _ => rfl, by omega, by omega⟩, PK3.out, TB3.out, NS3.out, FW3.out⟩
                case measure => simp [intOf]; omega
              · have hlk : ¬ la ≤ (k : Int) := by omega
                have hlk2 : (k : Int) ≤ la := by omega
                go_wp2_with fail
                go_roundw
                case rel => exact ⟨j + 1, la, none, S3, by go_num, by omega, by omega, rfl, ⟨fun h => (by cases h), fun _ => rfl, by omega, by omega⟩, PK3.out, TB3.out, NS3.out, FW3.out⟩
                case measure => simp [intOf]; omega
        · have hn : n ≤ j ∨ 100 ≤ j := by omega
          clear hlt
          rcases hn with h | h
          · go_wp2_with fail
            go_ret
            exact ⟨rfl, FW.out⟩
          · go_wp2_with fail
            all_goals go_ret
            all_goals exact ⟨rfl, FW.out⟩
end Go.Proofs.Ythoppkklooomgaa