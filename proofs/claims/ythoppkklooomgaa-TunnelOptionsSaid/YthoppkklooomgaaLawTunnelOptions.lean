/- TunnelOptions: the walk. -/
import Derived.Test.YthoppkklooomgaaSh14
import Derived.Test.YthoppkklooomgaaLift
namespace Go.Proofs.Ythoppkklooomgaa
open Go.RowKit
set_option linter.unusedVariables false
set_option linter.unusedSimpArgs false
def TO (ks : List Nat) : Tn := ⟨2, 1, 2, 5, 0, [], ks, false, false⟩
def AO (ks : List Nat) : TA := ⟨[(0, ⟨TO ks, 0, none⟩)], 1⟩
theorem o5a (ks : List Nat) : TA.add ⟨[], 0⟩ (TO ks) = (AO ks, 0, 0) := by rfl
theorem o5find (ks : List Nat) : (AO ks).find 2 1 2 5 true = .inl (0, ⟨TO ks, 0, none⟩) := by rfl
def PO (os : List Opt) (fs : List UInt8) : Pk := ⟨2, 1, 17, 0, 6081, gnOut ((5 : Nat) : Int) os fs⟩
theorem o5take {os : List Opt} {fs : List UInt8} (hr : rightN os = 0) (hc : ∀ o ∈ os, o.cls < 65536) (h1 : 14 ≤ fs.length) (h2 : fs.length ≤ 9000) : takeP (PO os fs) = .ok 2 5 true os false 0 fs := by
  unfold takeP
  rw [if_neg (by unfold PO; simp), if_pos (by unfold PO; simp)]
  rw [show (PO os fs).b = gnOut ((5 : Nat) : Int) os fs from rfl, gnDec_out 5 (by omega) os hr hc fs h1 h2]
theorem o5dec {ks : List Nat} {os : List Opt} {fs : List UInt8} (hr : rightN os = 0) (hc : ∀ o ∈ os, o.cls < 65536) (h1 : 14 ≤ fs.length) (h2 : fs.length ≤ 9000) :
    (AO ks).decap (PO os fs) = (AO ks, if os.any (strange ks) = true then .no [tunnelS] 11 else .ok 0 fs) := by
  unfold TA.decap
  rw [o5take hr hc h1 h2]
  simp only
  rw [show (PO os fs).dst = 1 from rfl, show (PO os fs).src = 2 from rfl, o5find]
  simp only
  unfold TE.behind TE.accepts
  simp only
  by_cases h : os.any (strange ks) = true
  · rw [if_pos h]
    simp [TO, h]
    rfl
  · rw [if_neg h]
    simp [TO, h]
    rfl
theorem okTO {ks : List Nat} (h : ∀ k ∈ ks, k < 4294967296) : (TO ks).ok := ⟨by simp [TO], by simp [TO], by simp [TO], by simp [TO], by simp [TO], h⟩
theorem Bs.upto2 {w : World} {ao : Option Addr} {n cap : Nat} {bs : List UInt8} (h : Bs w ao n cap bs) {m : Nat} (hm : m ≤ n) : Bs w ao m cap (bs.take m) := by
  obtain ⟨e1, e2⟩ := h
  have := e2.le
  refine ⟨by rw [List.length_take]; omega, ⟨by omega, e2.capLe, e2.nocap, fun a ha j u hu => e2.cell a ha j u ?_⟩⟩
  rw [bytesV, List.map_take, List.getElem?_take] at hu
  split at hu
  · exact hu
  · cases hu
theorem Us.upto {w : World} {ao : Option Addr} {n cap : Nat} {ks : List Nat} (h : Us w ao n cap ks) {m : Nat} (hm : m ≤ n) : Us w ao m cap (ks.take m) := by
  obtain ⟨e1, e2⟩ := h
  have := e2.le
  refine ⟨by rw [List.length_take]; omega, ⟨by omega, e2.capLe, e2.nocap, fun a ha j u hu => e2.cell a ha j u ?_⟩⟩
  rw [u32L, List.map_take, List.getElem?_take] at hu
  split at hu
  · exact hu
  · cases hu
theorem anyS_snoc (ks : List Nat) (os : List Opt) (o : Opt) : (os ++ [o]).any (strange ks) = (os.any (strange ks) || strange ks o) := by rw [List.any_append]; simp
theorem hasU_snoc (ks : List Nat) (k x : Nat) : hasU (ks ++ [k]) x = (hasU ks x || decide (k = x)) := by
  unfold hasU
  rw [Bool.eq_iff_iff, Bool.or_eq_true, decide_eq_true_eq]
  simp only [List.contains_eq_mem, decide_eq_true_eq, List.mem_append, List.mem_singleton]
  constructor
  · rintro (h | h)
    · exact .inl h
    · exact .inr h.symm
  · rintro (h | h)
    · exact .inl h
    · exact .inr h.symm
theorem takeU {ks : List Nat} {i x : Nat} (h : ks[i]? = some x) : ks.take (i + 1) = ks.take i ++ [x] := by
  obtain ⟨h1, h2⟩ := List.getElem?_eq_some_iff.1 h
  rw [List.take_add_one, h]; rfl
theorem takeO {ks : List Opt} {i : Nat} {x : Opt} (h : ks[i]? = some x) : ks.take (i + 1) = ks.take i ++ [x] := by
  rw [List.take_add_one, h]; rfl
theorem us_of_row2 {w : World} {a : Option Addr} {len cap : Nat} {zs : List Int}
    (h : (a = none ∧ len = 0 ∧ cap = 0 ∧ zs = []) ∨ ∃ x, a = some x ∧ len ≤ cap ∧ cap ≤ maxLen ∧ zs.length = cap ∧ (∀ i, i < zs.length → w.cell? (x.add i) = some (.int .u32 (zs.getD i 0))) ∧ ∀ n ∈ zs, (Lit.int .u32 n).wf = true) :
    ∃ us, Us w a len cap us ∧ ∀ u ∈ us, u < 4294967296 := by
  rcases h with ⟨rfl, rfl, rfl, rfl⟩ | ⟨x, rfl, h1, h2, h3, h4, h5⟩
  · exact ⟨[], ⟨rfl, Sl.nil w⟩, by simp⟩
  · refine ⟨(zs.take len).map Int.toNat, ⟨by simp; omega, ⟨h1, by unfold maxLen at h2; omega, fun h => (by cases h), fun a ha j u hu => ?_⟩⟩, ?_⟩
    · cases ha
      simp only [u32L, List.map_map, List.getElem?_map, Option.map_eq_some_iff] at hu
      obtain ⟨z, hz, rfl⟩ := hu
      rw [List.getElem?_take] at hz
      split at hz
      · have hj : j < zs.length := (List.getElem?_eq_some_iff.1 hz).1
        rw [h4 j hj]
        have hw := wf_u32 (h5 z (List.mem_of_getElem? hz))
        have e : zs.getD j 0 = z := by simp [List.getD, hz]
        rw [e]
        show some (Value.int .u32 z) = some (Value.int .u32 (z.toNat : Int))
        rw [Int.toNat_of_nonneg hw.1]
      · cases hz
    · intro u hu
      obtain ⟨z, hz, rfl⟩ := List.mem_map.1 hu
      have hw := wf_u32 (h5 z (List.mem_of_mem_take hz))
      omega
def OptsOk (w : World) (e : Ending) (w' : World) : Prop := e = .returned (.bool true) ∧ Fr No w w'

set_option maxRecDepth 100000 in
set_option maxHeartbeats 3200000 in
theorem TunnelOptions_walk {w : World} {oo : Option Addr} {on oc : Nat} {os : List Opt} {ko : Option Addr} {kn kc : Nat} {ks : List Nat} {ao : Option Addr} {n cap : Nat} {fs : List UInt8} (ho : Rs w oo on oc os) (hk : Us w ko kn kc ks) (hks : ∀ k ∈ ks, k < 4294967296) (hb : Bs w ao n cap fs) :
    Calls Try.prog 5 #[.slice oo on oc, .slice ko kn kc, .slice ao n cap] w (OptsOk w) := by
  have a1 := ho.le
  have a2 := ho.capLe
  have b1 := hk.2.le
  have b2 := hk.2.capLe
  have c1 := hb.2.le
  have c2 := hb.2.capLe
  obtain ⟨m0, hm0⟩ : ∃ m, m = min on 4 := ⟨_, rfl⟩
  obtain ⟨m1, hm1⟩ : ∃ m, m = min kn 10 := ⟨_, rfl⟩
  obtain ⟨m2, hm2⟩ : ∃ m, m = min n 9000 := ⟨_, rfl⟩
  have HO := Lib.hid (ho.take m0 (by omega))
  have HK := Lib.hid (hk.upto (m := m1) (by omega))
  have HB := Lib.hid (hb.upto2 (m := m2) (by omega))
  have HKS : Hid (∀ k ∈ ks.take m1, k < 4294967296) := Lib.hid (fun k h => hks k (List.mem_of_mem_take h))
  generalize os.take m0 = os' at *
  generalize ks.take m1 = ks' at *
  generalize fs.take m2 = fs' at *
  have p0 : m0 ≤ 4 := by omega
  have p1 : m1 ≤ 10 := by omega
  have p2 : m2 ≤ 9000 := by omega
  have p3 : m0 ≤ oc := by omega
  have p4 : m1 ≤ kc := by omega
  have p5 : m2 ≤ cap := by omega
  have HM0 := Lib.hid hm0
  have HM1 := Lib.hid hm1
  have HM2 := Lib.hid hm2
  clear ho hk hb hks hm0 hm1 hm2
  go_enter Try.func5, Try.ntmps5
  go_wp2_with fail
  refine (shown14_any w).mono ?_
  rintro r w0 ⟨rfl, f0⟩
  have F0 := Lib.hid f0
  clear f0
  go_upto_region 2 with fail
  go_cut [0] (fun s0 wc => s0 = .slice oo m0 oc ∧ wc = w0)
  case first =>
    by_cases hc : on ≤ 4
    · have : m0 = on := by have := HM0.out; omega
      subst this
      go_wp2
      go_meet
      exact ⟨rfl, rfl⟩
    · have : m0 = 4 := by have := HM0.out; omega
      subst this
      have hcc : (4 : Int) ≤ (oc : Int) := by omega
      go_wp2
      go_meet
      exact ⟨rfl, rfl⟩
  case rest =>
  obtain ⟨rfl, rfl⟩ := hcut
  go_upto_region 3 with fail
  go_cut [1] (fun s1 wd => s1 = .slice ko m1 kc ∧ wd = wc)
  case first =>
    by_cases hc : kn ≤ 10
    · have : m1 = kn := by have := HM1.out; omega
      subst this
      go_wp2
      go_meet
      exact ⟨rfl, rfl⟩
    · have : m1 = 10 := by have := HM1.out; omega
      subst this
      have hcc : (10 : Int) ≤ (kc : Int) := by omega
      go_wp2
      go_meet
      exact ⟨rfl, rfl⟩
  case rest =>
  obtain ⟨rfl, rfl⟩ := hcut
  go_upto_region 4 with fail
  go_cut [2] (fun s2 we => s2 = .slice ao m2 cap ∧ we = wc)
  case first =>
    by_cases hc : n ≤ 9000
    · have : m2 = n := by have := HM2.out; omega
      subst this
      go_wp2
      go_meet
      exact ⟨rfl, rfl⟩
    · have : m2 = 9000 := by have := HM2.out; omega
      subst this
      have hcc : (9000 : Int) ≤ (cap : Int) := by omega
      go_wp2
      go_meet
      exact ⟨rfl, rfl⟩
  case rest =>
  obtain ⟨rfl, rfl⟩ := hcut
  clear HM0 HM1 HM2 a1 b1 c1
  go_wp2_with fail
  refine (tnNew_any wc).mono ?_
  rintro r w1 ⟨tb, SA, rfl, h1, f1, n1⟩
  have HT := Lib.hid h1
  have F1 := Lib.hid (F0.out.trans f1)
  have NA := Lib.hid (show NewS w.heap.size SA from fun k hk => Nat.le_trans F0.out.size (n1 k hk))
  clear h1 f1 n1 F0
  go_wp2_with fail
  refine (tnAdd_any HT.out (by show 0 < _; omega) (t := TO ks') (on := 0) (oc := 0) (fun W f => ⟨okTO HKS.out, ⟨rfl, Nat.le_refl _, by omega, fun _ => rfl, fun a h => (by cases h), fun o h => (by simp [TO] at h)⟩, HK.out.no (F1.out.newS f NA.out), by omega, by unfold mostU; omega⟩)).mono ?_
  rw [o5a]
  rintro r w4 ⟨rfl, -, SA4, a4, f4, s4, -⟩
  have TB := Lib.hid a4
  have NS := Lib.hid (NA.out.more s4 F1.out.size)
  have F4 := Lib.hid (F1.out.newS f4 NA.out)
  have O4 := Lib.hid (HO.out.no F4.out)
  have B4 := Lib.hid (HB.out.no F4.out)
  have hol : os'.length = m0 := HO.out.len.symm
  have hbl : fs'.length = m2 := HB.out.1.symm
  have OL := Lib.hid hol
  have BL := Lib.hid hbl
  have HBB := HB
  clear a4 f4 s4 HT F1 NA HO HB hol hbl
  go_wp2_with fail
  by_cases hr : rightN os' = 0
  rotate_left
  · obtain ⟨c, hc⟩ : ∃ c, rightN os' = c := ⟨_, rfl⟩
    have HR := Lib.hid hc
    have HZ : Hid (c ≠ 0) := Lib.hid (by rw [← HR.out]; exact hr)
    clear hc hr
    refine (gnEncap_right 5 (by omega) O4.out (by omega) HR.out HZ.out).mono ?_
    rintro e w6 ⟨b, rfl, -, f6⟩
    have F6 := Lib.hid (F4.out.trans f6)
    clear f6
    go_wp2_with fail
    go_ret
    exact ⟨rfl, F6.out⟩
  have HR := Lib.hid hr
  clear hr
  by_cases hs : 14 ≤ m2
  rotate_left
  · refine (gnEncap_size 5 (by omega) O4.out (by omega) HR.out 2 (.inl ⟨by omega, rfl⟩)).mono ?_
    rintro e w6 ⟨b, rfl, -, f6⟩
    have F6 := Lib.hid (F4.out.trans f6)
    clear f6
    go_wp2_with fail
    go_ret
    exact ⟨rfl, F6.out⟩
  have hsum := (right_zero HR.out).2
  obtain ⟨mm, hmm⟩ : ∃ mm, mm = 8 + osum os' + m2 := ⟨_, rfl⟩
  refine (gnEncap_ok 5 (by omega) (by omega) O4.out (by omega) HR.out B4.out hs p2 (m := mm) hmm).mono ?_
  have hmm2 : mm ≤ 20000 := by omega
  clear hmm hsum
  rintro e w6 ⟨g, gc, rfl, x6, f6, h6⟩
  have F6 := Lib.hid (F4.out.trans f6)
  have X6 := Lib.hid x6
  have O6 := Lib.hid (O4.out.no f6)
  have B6 := Lib.hid (B4.out.no f6)
  have TB6 := Lib.hid (TB.out.no f6)
  have K6 := Lib.hid (HK.out.no F6.out)
  clear x6 f6 h6 O4 B4 TB HK F4
  go_wp2_with fail
  go_loopw [13, 14] (fun s13 s14 wr => ∃ i : Nat, s14 = .int .i64 i ∧ i ≤ m0 ∧ s13 = .bool ((os'.take i).any (strange ks')) ∧ Fr No w6 wr) (fun _ s14 _ => m0 - (intOf s14).toNat)
  case atStart => exact ⟨0, rfl, by omega, by simp, Fr.refl _ _⟩
  case round =>
    obtain ⟨i, rfl, hi, rfl, hf⟩ := hrel
    have FR := Lib.hid hf
    clear hf
    by_cases hlt : i < m0
    · obtain ⟨a, o, rfl, hoi, ⟨bo, bc, d1, d2, d3, d4⟩, hcls⟩ := (O6.out.no FR.out).get i hlt
      have HOI := Lib.hid hoi
      have hlc := d4.2.le
      obtain ⟨z, hz⟩ : ∃ z, (os'.take i).any (strange ks') = z := ⟨_, rfl⟩
      have HZ := Lib.hid hz
      rw [hz]
      have hor := u32_or_nat' o.cls o.typ.toNat hcls o.typ.toNat_lt
      rw [show o.cls * 256 + o.typ.toNat = codeO o from rfl] at hor
      have htl := o.typ.toNat_lt
      clear hoi d4 hz
      go_wp2_with fail
      go_loopw [15, 16] (fun s15 s16 wq => ∃ k : Nat, s16 = .int .i64 k ∧ k ≤ m1 ∧ s15 = .bool (hasU (ks'.take k) (codeO o)) ∧ Fr No wr wq) (fun _ s16 _ => m1 - (intOf s16).toNat)
      case atStart => exact ⟨0, rfl, by omega, rfl, Fr.refl _ _⟩
      case round =>
        obtain ⟨k, rfl, hk, rfl, hf⟩ := hrel
        have FQ := Lib.hid hf
        by_cases hlk : k < m1
        · obtain ⟨ka, x, rfl, hx, hxc⟩ := ((K6.out.no FR.out).no FQ.out).at hlk
          have e1 := hf.cell d1 (fun h => h)
          have e2 := hf.cell d2 (fun h => h)
          have HX := Lib.hid hx
          have hbx := beqNat x (codeO o)
          obtain ⟨y, hy⟩ : ∃ y, hasU (ks'.take k) (codeO o) = y := ⟨_, rfl⟩
          have HY := Lib.hid hy
          rw [hy]
          clear hf hx hy d1 d2 d3
          have b1 : (k : Int) < (m1 : Int) := by omega
          have b2 : (0 : Int) ≤ (k : Int) := by omega
          have b3 : (k : Int).toNat = k := by omega
          have b4 : (i : Int) < (m0 : Int) := by omega
          have b5 : (0 : Int) ≤ (i : Int) := by omega
          have b6 : (i : Int).toNat = i := by omega
          cases y
          · go_wp2_with fail
            go_quiet (fail)
            go_wp2_with fail
            go_roundw
            case rel => exact ⟨k + 1, by go_num, by omega, by rw [takeU HX.out, hasU_snoc, HY.out]; simp, FQ.out.drewN _⟩
            case measure => simp [intOf]; omega
          · go_wp2_with fail
            go_quiet (fail)
            go_wp2_with fail
            go_roundw
            case rel => exact ⟨k + 1, by go_num, by omega, by rw [takeU HX.out, hasU_snoc, HY.out]; simp, FQ.out.drewN _⟩
            case measure => simp [intOf]; omega
        · have hk1 : k = m1 := by omega
          have hkl : ks'.length = m1 := K6.out.1.symm
          have hall : hasU (ks'.take k) (codeO o) = hasU ks' (codeO o) := by rw [List.take_of_length_le (by omega)]
          have e1 := hf.cell d1 (fun h => h)
          have e2 := hf.cell d2 (fun h => h)
          have hge : ¬ (k : Int) < (m1 : Int) := by omega
          rw [hall]
          obtain ⟨y, hy⟩ : ∃ y, hasU ks' (codeO o) = y := ⟨_, rfl⟩
          rw [hy]
          have hst : strange ks' o = (decide (128 ≤ (o.typ.toNat : Int)) && !y) := by
            unfold strange crit
            rw [hy]
            congr 1
            rw [decide_eq_decide]
            omega
          have HST := Lib.hid hst
          clear hf hall hy hst hkl d1 d2 d3 hk1 hlk
          have b4 : (i : Int) < (m0 : Int) := by omega
          have b5 : (0 : Int) ≤ (i : Int) := by omega
          have b6 : (i : Int).toNat = i := by omega
          by_cases h128 : 128 ≤ (o.typ.toNat : Int)
          · have h128' : 128 ≤ o.typ.toNat := by omega
            cases z <;> cases y
            all_goals (go_wp2_with fail)
            all_goals (try go_quiet (fail))
            all_goals (try go_wp2_with fail)
            all_goals go_roundw
            all_goals first
              | exact ⟨i + 1, by go_num, by omega, by rw [takeO HOI.out, anyS_snoc, HZ.out, HST.out]; simp [h128], (FR.out.trans FQ.out).drewN _⟩
              | exact ⟨i + 1, by go_num, by omega, by rw [takeO HOI.out, anyS_snoc, HZ.out, HST.out]; simp [h128], FR.out.trans FQ.out⟩
              | (simp [intOf]; omega)
          · have h128' : ¬ 128 ≤ o.typ.toNat := by omega
            cases z <;> cases y
            all_goals (go_wp2_with fail)
            all_goals (try go_quiet (fail))
            all_goals (try go_wp2_with fail)
            all_goals go_roundw
            all_goals first
              | exact ⟨i + 1, by go_num, by omega, by rw [takeO HOI.out, anyS_snoc, HZ.out, HST.out]; simp [h128], (FR.out.trans FQ.out).drewN _⟩
              | exact ⟨i + 1, by go_num, by omega, by rw [takeO HOI.out, anyS_snoc, HZ.out, HST.out]; simp [h128], FR.out.trans FQ.out⟩
              | (simp [intOf]; omega)
    · have hall : (os'.take i).any (strange ks') = os'.any (strange ks') := by rw [List.take_of_length_le (by rw [OL.out]; omega)]
      rw [hall]
      obtain ⟨z, hz⟩ : ∃ z, os'.any (strange ks') = z := ⟨_, rfl⟩
      rw [hz]
      have HZ := Lib.hid hz
      have hge : ¬ (i : Int) < (m0 : Int) := by omega
      have TB7 := Lib.hid (TB6.out.no FR.out)
      have X7 := Lib.hid (X6.out.no FR.out)
      have B7 := Lib.hid (B6.out.no FR.out)
      have F7 := Lib.hid (F6.out.trans FR.out)
      have hlen : (PO os' fs').b.length = mm := X6.out.1.symm
      have HL := Lib.hid hlen
      clear hz hall hlt TB6 X6 B6 F6 FR hlen
      go_wp2_with fail
      refine (tnDecap_any TB7.out (by show 1 < _; omega) (p := PO os' fs') (bn := mm) (bc := gc) ⟨X7.out.bs, by omega, by show 2 < 4294967296; omega, by show 1 < 4294967296; omega⟩).mono ?_
      rw [o5dec HR.out O6.out.cls (by rw [BL.out]; exact hs) (by rw [BL.out]; exact p2), HZ.out]
      cases z
      · rintro r w8 ⟨S3, b3, f3, s3, s3', he⟩
        simp only [Bool.false_eq_true, if_false] at he
        obtain ⟨g8, gc8, he, o8, -, -⟩ := he
        rw [BL.out] at he o8
        subst he
        have F8 := Lib.hid (F7.out.newS f3 NS.out)
        have B8 := Lib.hid (HBB.out.no F8.out)
        have O8 := Lib.hid o8
        have q1 := run_bytes_string (P := Try.prog) w8 36 9 5 o8.bs Try.underlying36 Try.underlying5 Try.underlying9
        have q2 := run_bytes_string (P := Try.prog) w8 36 9 5 B8.out Try.underlying36 Try.underlying5 Try.underlying9
        clear b3 f3 s3 s3' o8
        go_wp2_with fail
        go_ret
        exact ⟨rfl, F8.out⟩
      · rintro r w8 ⟨S3, b3, f3, s3, s3', he⟩
        simp only [if_true] at he
        obtain ⟨v, rfl, he⟩ := he
        obtain ⟨eb, rfl⟩ := he.wrongT
        have F8 := Lib.hid (F7.out.newS f3 NS.out)
        have HE := Lib.hid he
        clear b3 f3 s3 s3' he
        go_wp2_with (go_at_call 16; refine (errIs_any HE.out 11).mono ?_; rintro e w13 ⟨rfl, rfl⟩)
        go_ret
        exact ⟨rfl, F8.out⟩
end Go.Proofs.Ythoppkklooomgaa