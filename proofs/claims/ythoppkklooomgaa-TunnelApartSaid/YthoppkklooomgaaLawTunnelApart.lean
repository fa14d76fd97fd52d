/- TunnelApart: the walk. -/
import Derived.Test.YthoppkklooomgaaTnAp
import Derived.Deep.DeepCutAuto
namespace Go.Proofs.Ythoppkklooomgaa
open Go.RowKit
set_option linter.unusedVariables false
set_option linter.unusedSimpArgs false
theorem Bs.upto3 {w : World} {ao : Option Addr} {n cap : Nat} {bs : List UInt8} (h : Bs w ao n cap bs) {m : Nat} (hm : m ≤ n) : Bs w ao m cap (bs.take m) := by
  obtain ⟨e1, e2⟩ := h
  have := e2.le
  refine ⟨by rw [List.length_take]; omega, ⟨by omega, e2.capLe, e2.nocap, fun a ha j u hu => e2.cell a ha j u ?_⟩⟩
  rw [bytesV, List.map_take, List.getElem?_take] at hu
  split at hu
  · exact hu
  · cases hu
theorem Tb.okA {S : Nat → Prop} {w : World} {tb : Nat} {A : TA} (h : Tb S w tb A) : A.Ok := by
  obtain ⟨mb, L, h⟩ := h
  exact h.ok
def ApOk (w : World) (e : Ending) (w' : World) : Prop := e = .returned (.bool true) ∧ Fr No w w'
set_option maxRecDepth 100000 in
set_option maxHeartbeats 6400000 in
theorem TunnelApart_walk {w : World} {lo : Option Addr} {ln lc : Nat} (hl : Tns w lo ln lc) {q : Pk} {bo : Option Addr} {bn bc : Nat} (hb : Bs w bo bn bc q.b) (hsrc : q.src < 4294967296) (hdst : q.dst < 4294967296) :
    Calls Try.prog 7 #[.slice lo ln lc, .agg #[.int .u32 (q.src : Int), .int .u32 (q.dst : Int), .int .u8 (q.proto : Int), .int .u16 (q.sport : Int), .int .u16 (q.dport : Int), .slice bo bn bc]] w (ApOk w) := by
  have HL := Lib.hid hl
  have HB := Lib.hid hb
  have hl1 := hl.le
  have hl2 := hl.capLe
  have hb1 := hb.2.le
  have hb2 := hb.2.capLe
  obtain ⟨m, hm⟩ : ∃ m, m = min bn 10000 := ⟨_, rfl⟩
  have hm1 : m ≤ bn := by omega
  have hm2 : m ≤ 10000 := by omega
  have HM := Lib.hid hm
  have X0 := Lib.hid (heap_alloc_new w (.cells #[.int .u32 (q.src : Int), .int .u32 (q.dst : Int), .int .u8 (q.proto : Int), .int .u16 (q.sport : Int), .int .u16 (q.dport : Int), .slice bo bn bc] 41))
  have F0 := Lib.hid ((Fr.refl No w).alloc (.cells #[.int .u32 (q.src : Int), .int .u32 (q.dst : Int), .int .u8 (q.proto : Int), .int .u16 (q.sport : Int), .int .u16 (q.dport : Int), .slice bo bn bc] 41))
  have hq0 : w.heap.size < (w.alloc (.cells #[.int .u32 (q.src : Int), .int .u32 (q.dst : Int), .int .u8 (q.proto : Int), .int .u16 (q.sport : Int), .int .u16 (q.dport : Int), .slice bo bn bc] 41)).heap.size := by simp
  clear hl hb hm
  go_enter Try.func7, Try.ntmps7
  go_wp2_with fail
  generalize w.alloc (.cells #[.int .u32 (q.src : Int), .int .u32 (q.dst : Int), .int .u8 (q.proto : Int), .int .u16 (q.sport : Int), .int .u16 (q.dport : Int), .slice bo bn bc] 41) = w0 at *
  obtain ⟨pq, hpq⟩ : ∃ pq, pq = w.heap.size := ⟨_, rfl⟩
  rw [← hpq] at X0 ⊢
  have pq0 : w.heap.size ≤ pq := by omega
  have pq1 : pq < w0.heap.size := by omega
  clear hpq hq0
  refine (shown14_any w0).mono ?_
  rintro r w1 ⟨rfl, f1⟩
  have F1 := Lib.hid (F0.out.trans f1)
  have X1 := Lib.hid (f1.heap X0.out (fun h => h))
  have hs1 := f1.size
  clear f1 X0 F0
  go_wp2_with fail
  refine (tnNew_any w1).mono ?_
  rintro r w2 ⟨ta, SA, rfl, h2, f2, n2⟩
  have TA2 := Lib.hid h2
  have NA := Lib.hid (show NewS (pq + 1) SA from fun k hk => by have := n2 k hk; omega)
  have F2 := Lib.hid (F1.out.trans f2)
  have X2 := Lib.hid (f2.heap X1.out (fun h => h))
  clear h2 f2 n2 F1 X1 hs1
  have NS1 : Hid (∀ S, NewS (pq + 1) S → NewS w.heap.size S) := Lib.hid (fun S h k hk => by have := h k hk; omega)
  go_wp2_with fail
  go_loopw [7] (fun s7 wr => ∃ (i : Nat) (A : TA) (S : Nat → Prop), s7 = .int .i64 i ∧ i ≤ ln ∧ i ≤ 10 ∧ A.next ≤ i ∧ Tb S wr ta A ∧ NewS (pq + 1) S ∧ wr.heap[pq]? = some (.cells #[.int .u32 (q.src : Int), .int .u32 (q.dst : Int), .int .u8 (q.proto : Int), .int .u16 (q.sport : Int), .int .u16 (q.dport : Int), .slice bo bn bc] 41 (0, 0)) ∧ Fr No w wr) (fun s7 _ => ln - (intOf s7).toNat)
  case atStart => exact ⟨0, ⟨[], 0⟩, SA, rfl, by omega, by omega, by show 0 ≤ 0; omega, TA2.out, NA.out, X2.out, F2.out⟩
  case round =>
    clear TA2 NA X2 F2
    obtain ⟨i, A, S, rfl, hi, hi2, hnx, htb, hns, hx, hfr⟩ := hrel
    have TR := Lib.hid htb
    have NS := Lib.hid hns
    have XR := Lib.hid hx
    have FR := Lib.hid hfr
    have HNX := Lib.hid hnx
    have hwr : pq + 1 ≤ wr.heap.size := lt_of_heap XR.out
    clear htb hns hx hfr hnx
    by_cases hlt : i < ln ∧ i < 10
    · obtain ⟨hlt1, hlt2⟩ := hlt
      obtain ⟨g, off, t, oo, on, oc, ko, kn, kc, rfl, hrd, c0, c1, c2, c3, c4, c5, c6, c7, c8⟩ := HL.out.at' i hlt1
      have HRD := Lib.hid hrd
      have d0 := FR.out.cell c0 (fun h => h)
      have d1 := FR.out.cell c1 (fun h => h)
      have d2 := FR.out.cell c2 (fun h => h)
      have d3 := FR.out.cell c3 (fun h => h)
      have d4 := FR.out.cell c4 (fun h => h)
      have d5 := FR.out.cell c5 (fun h => h)
      have d6 := FR.out.cell c6 (fun h => h)
      have d7 := FR.out.cell c7 (fun h => h)
      have d8 := FR.out.cell c8 (fun h => h)
      clear hrd c0 c1 c2 c3 c4 c5 c6 c7 c8
      go_wp2_with fail
      refine (tnAdd_any TR.out (by have := HNX.out; omega) (t := t) (fun W f => HRD.out.no (FR.out.newS f (NS1.out _ NS.out)))).mono ?_
      rintro r w6 ⟨rfl, -, S2, a6, f6, s6, -⟩
      have hn6 := add_next A t
      have HN6 := Lib.hid hn6
      have T6 := Lib.hid a6
      have NS6 := Lib.hid (NS.out.more s6 hwr)
      have F6 := Lib.hid (FR.out.newS f6 (NS1.out _ NS.out))
      have X6 := Lib.hid (f6.heap XR.out (fun h => by have := NS.out pq h; omega))
      clear hn6 a6 f6 s6 TR XR FR NS d0 d1 d2 d3 d4 d5 d6 d7 d8
      go_wp2_with fail
      go_roundw
      case rel => exact ⟨i + 1, (A.add t).1, S2, by go_num, by omega, by omega, by have := HN6.out; have := HNX.out; omega, T6.out, NS6.out, X6.out, F6.out⟩
      case measure => simp [intOf]; omega
    · have hn : (¬ (i : Int) < (ln : Int)) ∨ ((i : Int) < (ln : Int) ∧ ¬ (i : Int) < 10) := by omega
      rcases hn with h | ⟨h, h'⟩
      · skip
        obtain ⟨c0, c1, c2, c3, c4, c5⟩ := cells6' XR.out
        have z := free_row XR.out 5
        go_upto_region 9 with fail
        go_cut [7] (fun s7 wc => s7 = .int .i64 i ∧ wc = wr.setCell ⟨pq, 5, none⟩ (.slice bo m bc))
        case first =>
          by_cases hc : bn ≤ 10000
          · have : m = bn := by have := HM.out; omega
            subst this
            go_wp2
            go_meet
            exact ⟨rfl, rfl⟩
          · have : m = 10000 := by have := HM.out; omega
            subst this
            have hcc : (10000 : Int) ≤ (bc : Int) := by omega
            go_wp2
            go_meet
            exact ⟨rfl, rfl⟩
        case rest =>
        obtain ⟨rfl, hwc⟩ := hcut
        have XM := Lib.hid (set_row (cs' := #[.int .u32 (q.src : Int), .int .u32 (q.dst : Int), .int .u8 (q.proto : Int), .int .u16 (q.sport : Int), .int .u16 (q.dport : Int), .slice bo m bc]) XR.out 5 (.slice bo m bc) (by simp))
        have fm := Fr.setCell (Fr.refl (Is pq) wr) (p := ⟨pq, 5, none⟩) (.inl rfl) (.slice bo m bc)
        rw [← hwc] at XM fm
        have TM := Lib.hid (TR.out.fr fm (fun k hk (h : k = pq) => by have := NS.out k hk; omega))
        have FM := Lib.hid (FR.out.then fm (fun k hk (h : k = pq) => by omega))
        clear fm hwc c0 c1 c2 c3 c4 c5 z TR XR FR
        have hwm : pq + 1 ≤ wc.heap.size := lt_of_heap XM.out
        obtain ⟨c0, c1, c2, c3, c4, c5⟩ := cells6' XM.out
        go_wp2_with fail
        obtain ⟨RR, hR⟩ : ∃ RR, A.decap ⟨q.src, q.dst, q.proto, q.sport, q.dport, q.b.take m⟩ = RR := ⟨_, rfl⟩
        refine (tnDecap_any TM.out (by have := HNX.out; omega) (p := ⟨q.src, q.dst, q.proto, q.sport, q.dport, q.b.take m⟩) ⟨(HB.out.upto3 hm1).no FM.out, by omega, hsrc, hdst⟩).mono ?_
        rw [hR]
        obtain ⟨B, X⟩ := RR
        cases X with
        | no ls n =>
          rintro r w8 ⟨S3, b8, f8, s8, -, v, rfl, he⟩
          obtain ⟨tt, x, rfl⟩ := he.held
          have F8 := Lib.hid (FM.out.newS f8 (NS1.out _ NS.out))
          clear b8 f8 s8 he hR
          go_wp2_with fail
          go_ret
          exact ⟨rfl, F8.out⟩
        | ok n fs =>
          obtain ⟨e, hg, hel, hep, hek, k1, k2, n0, n1⟩ := decap_from TM.out.okA hR
          clear hR
          rintro r w8 ⟨S3, b8, f8, s8, -, g8, gc8, rfl, -, -, -⟩
          have T8 := Lib.hid b8
          have F8 := Lib.hid (FM.out.newS f8 (NS1.out _ NS.out))
          have X8 := Lib.hid (f8.heap XM.out (fun h => by have := NS.out pq h; omega))
          have HG := Lib.hid hg
          obtain ⟨fl, hfl⟩ : ∃ fl, fs.length = fl := ⟨_, rfl⟩
          rw [hfl] at k1 k2 ⊢
          obtain ⟨K, hK⟩ : ∃ K, kindP ⟨q.src, q.dst, q.proto, q.sport, q.dport, q.b.take m⟩ = K := ⟨_, rfl⟩
          rw [hK] at hek
          have HK := Lib.hid hK
          have HEL := Lib.hid (show e.t.loc = q.dst from hel)
          have HEP := Lib.hid (show e.t.pee = q.src from hep)
          have HEK := Lib.hid hek
          have hnx2 := HNX.out
          clear b8 f8 s8 hg hfl hK hel hep hek TM XM FM c0 c1 c2 c3 c4 c5 NS
          go_wp2_with fail
          refine (tnGet_some T8.out (n := n) (by unfold okK; omega) HG.out).mono ?_
          rintro r w9 ⟨oo, on, oc, ad, ko, kn, kc, he, -, f9, -⟩
          rw [HEL.out, HEP.out, HEK.out] at he
          subst he
          have F9 := Lib.hid (F8.out.trans f9)
          have X9 := Lib.hid (f9.heap X8.out (fun h => h))
          clear f9 F8 X8 T8 HG HEL HEP HEK
          go_upto_region 14 with fail
          have fz := (Fr.refl No w9).alloc (.cells #[.int .i64 K, .int .u32 (q.dst : Int), .int .u32 (q.src : Int), .int .u32 (e.t.id : Int), .int .i64 e.t.seg, .slice oo on oc, .slice ko kn kc, .bool e.t.sum, .bool e.t.seq] 27)
          have Y10 := Lib.hid (heap_alloc_new w9 (.cells #[.int .i64 K, .int .u32 (q.dst : Int), .int .u32 (q.src : Int), .int .u32 (e.t.id : Int), .int .i64 e.t.seg, .slice oo on oc, .slice ko kn kc, .bool e.t.sum, .bool e.t.seq] 27))
          have X10 := Lib.hid (fz.heap X9.out (fun h => h))
          have F10 := Lib.hid (F9.out.trans fz)
          clear fz X9 F9
          generalize w9.alloc (.cells #[.int .i64 K, .int .u32 (q.dst : Int), .int .u32 (q.src : Int), .int .u32 (e.t.id : Int), .int .i64 e.t.seg, .slice oo on oc, .slice ko kn kc, .bool e.t.sum, .bool e.t.seq] 27) = w10 at *
          generalize w9.heap.size = xq at *
          obtain ⟨c0, c1, c2, c3, c4, c5⟩ := cells6' X10.out
          obtain ⟨d0, d1, d2, d3, d4, d5, d6, d7, d8⟩ := cells9 Y10.out
          have l1 : (14 : Int) ≤ (fl : Int) := by omega
          have l2 : (fl : Int) ≤ 9000 := by omega
          clear k1 k2
          obtain ⟨pr, hpr⟩ : ∃ pr, q.proto = pr := ⟨_, rfl⟩
          obtain ⟨dp, hdp⟩ : ∃ dp, q.dport = dp := ⟨_, rfl⟩
          have HK2 : Hid ((if pr = 17 ∧ dp = 4789 then (1 : Int) else if pr = 17 ∧ dp = 6081 then 2 else if pr = 47 then 3 else 0) = K) := Lib.hid (by rw [← hpr, ← hdp]; exact HK.out)
          rw [hpr] at c2
          rw [hdp] at c4
          clear HK X10 Y10
          by_cases h17 : pr = 17
          · subst h17
            by_cases h1 : dp = 4789
            · subst h1
              obtain rfl : (1 : Int) = K := HK2.out
              go_wp2_with fail
              go_ret
              exact ⟨rfl, F10.out⟩
            · by_cases h2 : dp = 6081
              · subst h2
                obtain rfl : (2 : Int) = K := HK2.out
                go_wp2_with fail
                go_ret
                exact ⟨rfl, F10.out⟩
              · obtain rfl : (0 : Int) = K := by have := HK2.out; rw [if_neg (by omega), if_neg (by omega), if_neg (by omega)] at this; exact this
                have j1 : ((dp : Int) == 4789) = false := by simp; omega
                have j2 : ((dp : Int) == 6081) = false := by simp; omega
                go_wp2_with fail
                go_ret
                exact ⟨rfl, F10.out⟩
          · have j0 : ((pr : Int) == 17) = false := by simp; omega
            by_cases h47 : pr = 47
            · subst h47
              obtain rfl : (3 : Int) = K := by have := HK2.out; rw [if_neg (by omega), if_neg (by omega), if_pos rfl] at this; exact this
              go_wp2_with fail
              go_ret
              exact ⟨rfl, F10.out⟩
            · have j1 : ((pr : Int) == 47) = false := by simp; omega
              obtain rfl : (0 : Int) = K := by have := HK2.out; rw [if_neg (by omega), if_neg (by omega), if_neg h47] at this; exact this
              go_wp2_with fail
              go_ret
              exact ⟨rfl, F10.out⟩
      · skip
        obtain ⟨c0, c1, c2, c3, c4, c5⟩ := cells6' XR.out
        have z := free_row XR.out 5
        go_upto_region 9 with fail
        go_cut [7] (fun s7 wc => s7 = .int .i64 i ∧ wc = wr.setCell ⟨pq, 5, none⟩ (.slice bo m bc))
        case first =>
          by_cases hc : bn ≤ 10000
          · have : m = bn := by have := HM.out; omega
            subst this
            go_wp2
            go_meet
            exact ⟨rfl, rfl⟩
          · have : m = 10000 := by have := HM.out; omega
            subst this
            have hcc : (10000 : Int) ≤ (bc : Int) := by omega
            go_wp2
            go_meet
            exact ⟨rfl, rfl⟩
        case rest =>
        obtain ⟨rfl, hwc⟩ := hcut
        have XM := Lib.hid (set_row (cs' := #[.int .u32 (q.src : Int), .int .u32 (q.dst : Int), .int .u8 (q.proto : Int), .int .u16 (q.sport : Int), .int .u16 (q.dport : Int), .slice bo m bc]) XR.out 5 (.slice bo m bc) (by simp))
        have fm := Fr.setCell (Fr.refl (Is pq) wr) (p := ⟨pq, 5, none⟩) (.inl rfl) (.slice bo m bc)
        rw [← hwc] at XM fm
        have TM := Lib.hid (TR.out.fr fm (fun k hk (h : k = pq) => by have := NS.out k hk; omega))
        have FM := Lib.hid (FR.out.then fm (fun k hk (h : k = pq) => by omega))
        clear fm hwc c0 c1 c2 c3 c4 c5 z TR XR FR
        have hwm : pq + 1 ≤ wc.heap.size := lt_of_heap XM.out
        obtain ⟨c0, c1, c2, c3, c4, c5⟩ := cells6' XM.out
        go_wp2_with fail
        obtain ⟨RR, hR⟩ : ∃ RR, A.decap ⟨q.src, q.dst, q.proto, q.sport, q.dport, q.b.take m⟩ = RR := ⟨_, rfl⟩
        refine (tnDecap_any TM.out (by have := HNX.out; omega) (p := ⟨q.src, q.dst, q.proto, q.sport, q.dport, q.b.take m⟩) ⟨(HB.out.upto3 hm1).no FM.out, by omega, hsrc, hdst⟩).mono ?_
        rw [hR]
        obtain ⟨B, X⟩ := RR
        cases X with
        | no ls n =>
          rintro r w8 ⟨S3, b8, f8, s8, -, v, rfl, he⟩
          obtain ⟨tt, x, rfl⟩ := he.held
          have F8 := Lib.hid (FM.out.newS f8 (NS1.out _ NS.out))
          clear b8 f8 s8 he hR
          go_wp2_with fail
          go_ret
          exact ⟨rfl, F8.out⟩
        | ok n fs =>
          obtain ⟨e, hg, hel, hep, hek, k1, k2, n0, n1⟩ := decap_from TM.out.okA hR
          clear hR
          rintro r w8 ⟨S3, b8, f8, s8, -, g8, gc8, rfl, -, -, -⟩
          have T8 := Lib.hid b8
          have F8 := Lib.hid (FM.out.newS f8 (NS1.out _ NS.out))
          have X8 := Lib.hid (f8.heap XM.out (fun h => by have := NS.out pq h; omega))
          have HG := Lib.hid hg
          obtain ⟨fl, hfl⟩ : ∃ fl, fs.length = fl := ⟨_, rfl⟩
          rw [hfl] at k1 k2 ⊢
          obtain ⟨K, hK⟩ : ∃ K, kindP ⟨q.src, q.dst, q.proto, q.sport, q.dport, q.b.take m⟩ = K := ⟨_, rfl⟩
          rw [hK] at hek
          have HK := Lib.hid hK
          have HEL := Lib.hid (show e.t.loc = q.dst from hel)
          have HEP := Lib.hid (show e.t.pee = q.src from hep)
          have HEK := Lib.hid hek
          have hnx2 := HNX.out
          clear b8 f8 s8 hg hfl hK hel hep hek TM XM FM c0 c1 c2 c3 c4 c5 NS
          go_wp2_with fail
          refine (tnGet_some T8.out (n := n) (by unfold okK; omega) HG.out).mono ?_
          rintro r w9 ⟨oo, on, oc, ad, ko, kn, kc, he, -, f9, -⟩
          rw [HEL.out, HEP.out, HEK.out] at he
          subst he
          have F9 := Lib.hid (F8.out.trans f9)
          have X9 := Lib.hid (f9.heap X8.out (fun h => h))
          clear f9 F8 X8 T8 HG HEL HEP HEK
          go_upto_region 14 with fail
          have fz := (Fr.refl No w9).alloc (.cells #[.int .i64 K, .int .u32 (q.dst : Int), .int .u32 (q.src : Int), .int .u32 (e.t.id : Int), .int .i64 e.t.seg, .slice oo on oc, .slice ko kn kc, .bool e.t.sum, .bool e.t.seq] 27)
          have Y10 := Lib.hid (heap_alloc_new w9 (.cells #[.int .i64 K, .int .u32 (q.dst : Int), .int .u32 (q.src : Int), .int .u32 (e.t.id : Int), .int .i64 e.t.seg, .slice oo on oc, .slice ko kn kc, .bool e.t.sum, .bool e.t.seq] 27))
          have X10 := Lib.hid (fz.heap X9.out (fun h => h))
          have F10 := Lib.hid (F9.out.trans fz)
          clear fz X9 F9
          generalize w9.alloc (.cells #[.int .i64 K, .int .u32 (q.dst : Int), .int .u32 (q.src : Int), .int .u32 (e.t.id : Int), .int .i64 e.t.seg, .slice oo on oc, .slice ko kn kc, .bool e.t.sum, .bool e.t.seq] 27) = w10 at *
          generalize w9.heap.size = xq at *
          obtain ⟨c0, c1, c2, c3, c4, c5⟩ := cells6' X10.out
          obtain ⟨d0, d1, d2, d3, d4, d5, d6, d7, d8⟩ := cells9 Y10.out
          have l1 : (14 : Int) ≤ (fl : Int) := by omega
          have l2 : (fl : Int) ≤ 9000 := by omega
          clear k1 k2
          obtain ⟨pr, hpr⟩ : ∃ pr, q.proto = pr := ⟨_, rfl⟩
          obtain ⟨dp, hdp⟩ : ∃ dp, q.dport = dp := ⟨_, rfl⟩
          have HK2 : Hid ((if pr = 17 ∧ dp = 4789 then (1 : Int) else if pr = 17 ∧ dp = 6081 then 2 else if pr = 47 then 3 else 0) = K) := Lib.hid (by rw [← hpr, ← hdp]; exact HK.out)
          rw [hpr] at c2
          rw [hdp] at c4
          clear HK X10 Y10
          by_cases h17 : pr = 17
          · subst h17
            by_cases h1 : dp = 4789
            · subst h1
              obtain rfl : (1 : Int) = K := HK2.out
              go_wp2_with fail
              go_ret
              exact ⟨rfl, F10.out⟩
            · by_cases h2 : dp = 6081
              · subst h2
                obtain rfl : (2 : Int) = K := HK2.out
                go_wp2_with fail
                go_ret
                exact ⟨rfl, F10.out⟩
              · obtain rfl : (0 : Int) = K := by have := HK2.out; rw [if_neg (by omega), if_neg (by omega), if_neg (by omega)] at this; exact this
                have j1 : ((dp : Int) == 4789) = false := by simp; omega
                have j2 : ((dp : Int) == 6081) = false := by simp; omega
                go_wp2_with fail
                go_ret
                exact ⟨rfl, F10.out⟩
          · have j0 : ((pr : Int) == 17) = false := by simp; omega
            by_cases h47 : pr = 47
            · subst h47
              obtain rfl : (3 : Int) = K := by have := HK2.out; rw [if_neg (by omega), if_neg (by omega), if_pos rfl] at this; exact this
              go_wp2_with fail
              go_ret
              exact ⟨rfl, F10.out⟩
            · have j1 : ((pr : Int) == 47) = false := by simp; omega
              obtain rfl : (0 : Int) = K := by have := HK2.out; rw [if_neg (by omega), if_neg (by omega), if_neg h47] at this; exact this
              go_wp2_with fail
              go_ret
              exact ⟨rfl, F10.out⟩
end Go.Proofs.Ythoppkklooomgaa