/- TunnelFlows: frames of one flow have one port: the walk. -/
import Derived.Test.YthoppkklooomgaaSh14
import Derived.Test.YthoppkklooomgaaCopy
import Derived.Test.YthoppkklooomgaaStore
namespace Go.Proofs.Ythoppkklooomgaa
open Go.RowKit
set_option linter.unusedVariables false
set_option linter.unusedSimpArgs false
theorem Bs.upto {w : World} {ao : Option Addr} {n cap : Nat} {bs : List UInt8} (h : Bs w ao n cap bs) {m : Nat} (hm : m ≤ n) : Bs w ao m cap (bs.take m) := by
  obtain ⟨e1, e2⟩ := h
  have := e2.le
  refine ⟨by rw [List.length_take]; omega, ⟨by omega, e2.capLe, e2.nocap, fun a ha j u hu => e2.cell a ha j u ?_⟩⟩
  rw [bytesV, List.map_take, List.getElem?_take] at hu
  split at hu
  · exact hu
  · cases hu
/-- Frames of one flow. -/
theorem flow_eq {xs zs : List UInt8} (h1 : 34 ≤ xs.length) (h2 : 34 ≤ zs.length) (ha : ∀ j, j < 14 → zs[j]? = xs[j]?) (hb : zs[23]? = xs[23]?) (hc : ∀ j, 26 ≤ j → j < 34 → zs[j]? = xs[j]?) : flowOf zs = flowOf xs := by
  have e1 : zs.take 12 = xs.take 12 := by
    apply List.ext_getElem?
    intro i
    rw [List.getElem?_take, List.getElem?_take]
    split
    · exact ha i (by omega)
    · rfl
  have e2 : (zs.drop 23).take 1 = (xs.drop 23).take 1 := by
    apply List.ext_getElem?
    intro i
    rw [List.getElem?_take, List.getElem?_take]
    split
    · obtain rfl : i = 0 := by omega
      rw [List.getElem?_drop, List.getElem?_drop]; exact hb
    · rfl
  have e3 : (zs.drop 26).take 8 = (xs.drop 26).take 8 := by
    apply List.ext_getElem?
    intro i
    rw [List.getElem?_take, List.getElem?_take]
    split
    · rw [List.getElem?_drop, List.getElem?_drop]; exact hc (26 + i) (by omega) (by omega)
    · rfl
  unfold flowOf
  rw [e1, e2, e3, ha 12 (by omega), ha 13 (by omega)]
  have : (34 ≤ zs.length ∧ xs[12]? = some 8 ∧ xs[13]? = some 0) ↔ (34 ≤ xs.length ∧ xs[12]? = some 8 ∧ xs[13]? = some 0) := by
    constructor <;> (rintro ⟨-, h⟩; exact ⟨by assumption, h⟩)
  by_cases hh : 34 ≤ xs.length ∧ xs[12]? = some 8 ∧ xs[13]? = some 0
  · rw [if_pos hh, if_pos (this.2 hh)]
  · rw [if_neg hh, if_neg (fun h => hh (this.1 h))]
theorem port_eq {xs zs : List UInt8} (h : flowOf zs = flowOf xs) : portOf zs = portOf xs := by rw [portOf, portOf, h]

def TrueNo (w : World) (e : Ending) (w' : World) : Prop := e = .returned (.bool true) ∧ Fr No w w'
set_option maxRecDepth 100000 in
set_option maxHeartbeats 3200000 in
theorem TunnelFlows_walk {w : World} {ao bo : Option Addr} {n cap k cb : Nat} {xs ys : List UInt8} (ha : Bs w ao n cap xs) (hb : Bs w bo k cb ys) :
    Calls Try.prog 4 #[.slice ao n cap, .slice bo k cb] w (TrueNo w) := by
  have HA := Lib.hid ha
  have HB := Lib.hid hb
  have a1 := ha.2.le
  have a2 := ha.2.capLe
  have b1 := hb.2.le
  have b2 := hb.2.capLe
  clear ha hb
  obtain ⟨m, hm⟩ : ∃ m, m = min n 100 := ⟨_, rfl⟩
  obtain ⟨l, hl⟩ : ∃ l, l = min k 100 := ⟨_, rfl⟩
  have hm1 : m ≤ n := by omega
  have hm2 : m ≤ 100 := by omega
  have hl1 : l ≤ k := by omega
  have hl2 : l ≤ 100 := by omega
  have HM := Lib.hid hm
  have HL := Lib.hid hl
  clear hm hl
  go_enter Try.func4, Try.ntmps4
  go_wp2_with fail
  refine (shown14_any w).mono ?_
  rintro r w1 ⟨rfl, f1⟩
  have F1 := Lib.hid f1
  clear f1
  have AW := Lib.hid (HA.out.upto hm1)
  have B1 := Lib.hid ((HB.out.upto hl1).no F1.out)
  obtain ⟨us, hus⟩ : ∃ us, us = xs.take m := ⟨_, rfl⟩
  obtain ⟨bs, hbs⟩ : ∃ bs, bs = ys.take l := ⟨_, rfl⟩
  rw [← hus] at AW
  rw [← hbs] at B1
  clear hus hbs
  go_upto_region 2 with fail
  go_cut [0] (fun s0 wc => s0 = .slice ao m cap ∧ wc = w1)
  case first =>
    by_cases hc : n ≤ 100
    · have : m = n := by have := HM.out; omega
      subst this
      go_wp2
      go_meet
      exact ⟨rfl, rfl⟩
    · have : m = 100 := by have := HM.out; omega
      subst this
      have hcc : (100 : Int) ≤ (cap : Int) := by omega
      go_wp2
      go_meet
      exact ⟨rfl, rfl⟩
  case rest =>
    obtain ⟨rfl, rfl⟩ := hcut
    go_upto_region 3 with fail
    go_cut [1] (fun s1 wc => ∃ g gc, s1 = .slice (some ⟨g, 0, none⟩) l gc ∧ OB wc 5 (some ⟨g, 0, none⟩) l gc bs ∧ Fr No w wc ∧ w.heap.size ≤ g)
    case first =>
      by_cases hc : k ≤ 100
      · have : l = k := by have := HL.out; omega
        subst this
        go_wp2_with (at_builtin; refine wpl_copy (.tmp 14) (.tmp 19) rfl rfl rfl rfl B1.out (by unfold big; omega) ?_; intro g cap' w3 ho hf hg)
        go_meet
        exact ⟨g, cap', rfl, ho, F1.out.trans hf, Nat.le_trans F1.out.size hg⟩
      · have : l = 100 := by have := HL.out; omega
        subst this
        have hcc : (100 : Int) ≤ (cb : Int) := by omega
        go_wp2_with (at_builtin; refine wpl_copy (.tmp 14) (.tmp 19) rfl rfl rfl rfl B1.out (by unfold big; omega) ?_; intro g cap' w3 ho hf hg)
        go_meet
        exact ⟨g, cap', rfl, ho, F1.out.trans hf, Nat.le_trans F1.out.size hg⟩
    case rest =>
      obtain ⟨g, gc, rfl, ob, f3, hg⟩ := hcut
      have O3 := Lib.hid ob
      have F3 := Lib.hid f3
      clear ob f3 F1 B1
      obtain ⟨pa, hpa⟩ : ∃ pa, portOf us = pa := ⟨_, rfl⟩
      have hpl := port_le us
      rw [hpa] at hpl
      obtain ⟨hp1, hp2⟩ := hpl
      have HPA := Lib.hid hpa
      clear hpa
      have PA : Hid (∀ W, Fr No w W → Calls Try.prog 14 #[.slice ao m cap] W fun e w' => e = .returned (.int .u16 (pa : Int)) ∧ Fr No W w') := Lib.hid (fun W f => by
        have := tnPort_any (AW.out.no f); unfold portEnd at this; rw [HPA.out] at this; exact this)
      have kp1 : (49152 : Int) ≤ (pa : Int) := by omega
      have hx1 := O3.out.2.le
      have hx2 := O3.out.2.capLe
      have PB : Hid (∀ W cs, OB W 5 (some ⟨g, 0, none⟩) l gc cs → ∃ pb : Nat, portOf cs = pb ∧ 49152 ≤ pb ∧ Calls Try.prog 14 #[.slice (some ⟨g, 0, none⟩) l gc] W fun e w' => e = .returned (.int .u16 (pb : Int)) ∧ Fr No W w') := Lib.hid (fun W cs h => ⟨_, rfl, (port_le cs).1, tnPort_any h.bs⟩)
      by_cases h34 : m < 34 ∨ l < 34
      · obtain ⟨pb, -, hpb, CB⟩ := PB.out wc bs O3.out
        have CBH : Hid (∀ W, Fr No wc W → ∃ pb : Nat, 49152 ≤ pb ∧ Calls Try.prog 14 #[.slice (some ⟨g, 0, none⟩) l gc] W fun e w' => e = .returned (.int .u16 (pb : Int)) ∧ Fr No W w') := Lib.hid (fun W f => by
          obtain ⟨pb, -, h1, h2⟩ := PB.out W bs (O3.out.no f)
          exact ⟨pb, h1, h2⟩)
        clear CB
        have hgd : (decide ((m : Int) < 34) = true) ∨ (decide ((m : Int) < 34) = false ∧ decide ((l : Int) < 34) = true) := by
          rcases h34 with h | h
          · exact .inl (by simp; omega)
          · by_cases hm : m < 34
            · exact .inl (by simp; omega)
            · exact .inr ⟨by simp; omega, by simp; omega⟩
        clear h34
        rcases hgd with hgd | ⟨hgd, hgd2⟩
        · have hi : (m : Int) < 34 := of_decide_eq_true hgd
          go_wp2_with fail
          refine (PA.out _ F3.out).mono ?_
          rintro r w5 ⟨rfl, f5⟩
          obtain ⟨pb', hpb', CB⟩ := CBH.out w5 f5
          have F5 := Lib.hid (F3.out.trans f5)
          have kp2 : (49152 : Int) ≤ (pb' : Int) := by omega
          clear f5
          go_wp2_with fail
          refine CB.mono ?_
          rintro r w6 ⟨rfl, f6⟩
          have F6 := Lib.hid (F5.out.trans f6)
          clear f6 CB
          go_wp2_with fail
          go_ret
          exact ⟨rfl, F6.out⟩
        · have hi : ¬ (m : Int) < 34 := of_decide_eq_false hgd
          have hi2 : (l : Int) < 34 := of_decide_eq_true hgd2
          go_wp2_with fail
          refine (PA.out _ F3.out).mono ?_
          rintro r w5 ⟨rfl, f5⟩
          obtain ⟨pb', hpb', CB⟩ := CBH.out w5 f5
          have F5 := Lib.hid (F3.out.trans f5)
          have kp2 : (49152 : Int) ≤ (pb' : Int) := by omega
          clear f5
          go_wp2_with fail
          refine CB.mono ?_
          rintro r w6 ⟨rfl, f6⟩
          have F6 := Lib.hid (F5.out.trans f6)
          clear f6 CB
          go_wp2_with fail
          go_ret
          exact ⟨rfl, F6.out⟩
      · have i1 : ¬ (m : Int) < 34 := by omega
        have i2 : ¬ (l : Int) < 34 := by omega
        have j1 : 34 ≤ m := by omega
        have j2 : 34 ≤ l := by omega
        clear h34
        obtain ⟨x, rfl⟩ := AW.out.some (by rw [← AW.out.1]; omega)
        have hsp : x.spot = none := by
          obtain ⟨c, hc⟩ := at_lt (bs := us) (k := 0) (by rw [← AW.out.1]; omega)
          have := AW.out.at hc
          exact World.cell?_spot (w := w) (v := .int .u8 (c.toNat : Int)) (by rwa [show x.add 0 = x from rfl] at this)
        obtain ⟨ab, aoff, asp⟩ := x
        cases hsp
        go_wp2_with fail
        go_loopw [6] (fun s6 wr => ∃ (i : Nat) (zs : List UInt8), i ≤ 14 ∧ s6 = .int .i64 i ∧ OB wr 5 (some ⟨g, 0, none⟩) l gc zs ∧ (∀ j, j < i → zs[j]? = us[j]?) ∧ Fr No w wr) (fun s6 _ => 14 - (intOf s6).toNat)
        case atStart => exact ⟨0, bs, by omega, rfl, O3.out, by omega, F3.out⟩
        case round =>
          clear O3 F3
          obtain ⟨i, zs, hi, rfl, ho, hz, hf⟩ := hrel
          have O3 := Lib.hid ho
          have F3 := Lib.hid hf
          have HZ := Lib.hid hz
          clear ho hf hz
          by_cases hlt : i < 14
          · obtain ⟨c, hc⟩ := at_lt (bs := us) (k := i) (by rw [← AW.out.1]; omega)
            have c0 := (AW.out.no F3.out).at hc
            rw [Addr.add_lit] at c0
            obtain ⟨st1, st2, ⟨u, st3⟩, st4⟩ := O3.out.store i (by omega) c
            have i3 : (i : Int) < (m : Int) := by omega
            have i4 : (i : Int) < (l : Int) := by omega
            have O4 := Lib.hid st1
            have F4 := Lib.hid (F3.out.then st2 (fun t ht (h : t = g) => by omega))
            have HC := Lib.hid hc
            unfold byteV at O4 F4
            clear st1 st2 hc
            go_wp2_with fail
            go_roundw
            case rel =>
              refine ⟨i + 1, zs.set i c, by omega, by go_num, O4.out, fun j hj => ?_, F4.out⟩
              rw [List.getElem?_set]
              by_cases hji : i = j
              · subst hji
                rw [if_pos rfl, if_pos (by rw [← O3.out.1]; omega), HC.out]
              · rw [if_neg hji]; exact HZ.out j (by omega)
            case measure => simp [intOf]; omega
          · obtain rfl : i = 14 := by omega
            obtain ⟨c, hc⟩ := at_lt (bs := us) (k := 23) (by rw [← AW.out.1]; omega)
            have c0 := (AW.out.no F3.out).at hc
            rw [Addr.add_lit] at c0
            obtain ⟨st1, st2, ⟨u, st3⟩, st4⟩ := O3.out.store 23 (by omega) c
            have i3 : (23 : Int) < (m : Int) := by omega
            have i4 : (23 : Int) < (l : Int) := by omega
            have O4 := Lib.hid st1
            have F4 := Lib.hid (F3.out.then st2 (fun t ht (h : t = g) => by omega))
            have HZ4 : Hid (∀ j, j < 14 → (zs.set 23 c)[j]? = us[j]?) := Lib.hid (fun j hj => by rw [List.getElem?_set, if_neg (by omega)]; exact HZ.out j hj)
            have HC4 : Hid ((zs.set 23 c)[23]? = us[23]?) := Lib.hid (by rw [List.getElem?_set, if_pos rfl, if_pos (by rw [← O3.out.1]; omega), hc])
            unfold byteV at O4 F4
            clear st1 st2 hc HZ O3 F3
            generalize zs.set 23 c = qs at *
            go_wp2_with fail
            generalize wr.setCell ⟨g, 23, none⟩ (.int .u8 (c.toNat : Int)) = w4 at *
            clear c0 st3 st4
            go_loopw [7] (fun s7 wr => ∃ (i : Nat) (zs : List UInt8), 26 ≤ i ∧ i ≤ 34 ∧ s7 = .int .i64 i ∧ OB wr 5 (some ⟨g, 0, none⟩) l gc zs ∧ (∀ j, j < 14 → zs[j]? = us[j]?) ∧ zs[23]? = us[23]? ∧ (∀ j, 26 ≤ j → j < i → zs[j]? = us[j]?) ∧ Fr No w wr) (fun s7 _ => 34 - (intOf s7).toNat)
            case atStart => exact ⟨26, qs, by omega, by omega, rfl, O4.out, HZ4.out, HC4.out, by omega, F4.out⟩
            case round =>
              clear O4 F4 HZ4 HC4
              obtain ⟨i, zs, hi0, hi, rfl, ho, hz, hz23, hz2, hf⟩ := hrel
              have O3 := Lib.hid ho
              have F3 := Lib.hid hf
              have HZ := Lib.hid hz
              have HZ23 := Lib.hid hz23
              have HZ2 := Lib.hid hz2
              clear ho hf hz hz23 hz2
              by_cases hlt : i < 34
              · obtain ⟨c, hc⟩ := at_lt (bs := us) (k := i) (by rw [← AW.out.1]; omega)
                have c0 := (AW.out.no F3.out).at hc
                rw [Addr.add_lit] at c0
                obtain ⟨st1, st2, ⟨u, st3⟩, st4⟩ := O3.out.store i (by omega) c
                have i3 : (i : Int) < (m : Int) := by omega
                have i4 : (i : Int) < (l : Int) := by omega
                have O4 := Lib.hid st1
                have F4 := Lib.hid (F3.out.then st2 (fun t ht (h : t = g) => by omega))
                have HC := Lib.hid hc
                unfold byteV at O4 F4
                clear st1 st2 hc
                go_wp2_with fail
                go_roundw
                case rel =>
                  refine ⟨i + 1, zs.set i c, by omega, by omega, by go_num, O4.out, fun j hj => ?_, ?_, fun j hj0 hj => ?_, F4.out⟩
                  · rw [List.getElem?_set, if_neg (by omega)]; exact HZ.out j hj
                  · rw [List.getElem?_set, if_neg (by omega)]; exact HZ23.out
                  · rw [List.getElem?_set]
                    by_cases hji : i = j
                    · subst hji
                      rw [if_pos rfl, if_pos (by rw [← O3.out.1]; omega), HC.out]
                    · rw [if_neg hji]; exact HZ2.out j hj0 (by omega)
                case measure => simp [intOf]; omega
              · obtain rfl : i = 34 := by omega
                have hpz : portOf zs = pa := by
                  rw [← HPA.out]
                  exact port_eq (flow_eq (by rw [← AW.out.1]; exact j1) (by rw [← O3.out.1]; exact j2) HZ.out HZ23.out HZ2.out)
                have HPZ := Lib.hid hpz
                have PB2 : Hid (∀ W, Fr No wr W → Calls Try.prog 14 #[.slice (some ⟨g, 0, none⟩) l gc] W fun e w' => e = .returned (.int .u16 (pa : Int)) ∧ Fr No W w') := Lib.hid (fun W f => by
                  have := tnPort_any (O3.out.no f).bs; unfold portEnd at this; rw [HPZ.out] at this; exact this)
                clear hpz
                go_wp2_with fail
                refine (PA.out _ F3.out).mono ?_
                rintro r w5 ⟨rfl, f5⟩
                have F5 := Lib.hid f5
                clear f5
                go_wp2_with fail
                refine (PB2.out _ F5.out).mono ?_
                rintro r w6 ⟨rfl, f6⟩
                have F6 := Lib.hid ((F3.out.trans F5.out).trans f6)
                clear f6
                go_wp2_with fail
                refine (PA.out _ F6.out).mono ?_
                rintro r w7 ⟨rfl, f7⟩
                have F7 := Lib.hid (F6.out.trans f7)
                clear f7
                go_wp2_with fail
                go_ret
                exact ⟨rfl, F7.out⟩
end Go.Proofs.Ythoppkklooomgaa