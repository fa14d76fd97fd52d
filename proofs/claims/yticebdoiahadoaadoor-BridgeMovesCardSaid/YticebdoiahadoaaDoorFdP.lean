/- fdb: slices.DeleteFunc at pointers. fdb: slices.MinFunc at pointers; compare. fdb: compare. fdb: maps.Values over a base's map, as an iterator. fdb: slices.AppendSeq, Collect at pointers. fdb: add. fdb: add where there is no room. -/
import Derived.Test.YticebdoiahadoaaDoorFdQ
import Derived.Test.YticebdoiahadoaaDoorOwnSet
import Derived.Lib.SliceRun
import Derived.StillTailTactics
import Derived.Test.YticebdoiahadoaaDoorMpIn
namespace Go.Proofs.YticebdoiahadoaaDoor
open Go.RowKit
set_option linter.unusedVariables false
set_option linter.unusedSimpArgs false
set_option maxRecDepth 100000 in
set_option maxHeartbeats 2000000 in
theorem fbDeleteFunc_any {w : World} {ao : Option Addr} {n cap : Nat} {xs : List Nat} (hn : n = xs.length) (hn6 : n ≤ 1000000) (ho : Own w 60 1 ao n cap (xs.map evP)) {fk : Nat} {caps : Array Value} {Pd : Nat → Bool} (hl : LooksP w (At ao) fk caps xs Pd)
    (eg : ∀ args w, (callFunc fk args).run Tryd.prog w = .ok (.enter fk args) w) :
    Calls Tryd.prog 44 #[.slice ao n cap, .func (.func fk) #[] caps] w fun e w' => ∃ n', e = .returned (.slice ao n' cap) ∧ n' = (xs.filter fun b => !(Pd b)).length ∧ Own w' 60 1 ao n' cap ((xs.filter fun b => !(Pd b)).map evP) ∧ Fr (At ao) w w' := by
  have HN := Lib.hid hn
  have HO := Lib.hid ho
  have HL := Lib.hid hl
  have hc1 := ho.le
  have hc2 := ho.capLe
  clear hn ho hl
  go_enter Tryd.func44, Tryd.ntmps44
  go_wp2_with fail
  refine (fbIndexFunc_any HN.out HO.out HL.out eg).mono ?_
  rintro e w1 ⟨⟨z, rfl, hz⟩, f1⟩
  have F1 := Lib.hid f1
  clear f1
  rcases hz with ⟨rfl, hno⟩ | ⟨i, b0, rfl, hb0, hpb, hno⟩
  · have hfl : (xs.filter fun b => !(Pd b)) = xs := by
      rw [List.filter_eq_self]; intro b hb; rw [hno b hb]; rfl
    have HFL := Lib.hid hfl
    clear hno hfl
    go_wp2_with fail
    go_ret
    exact ⟨n, rfl, by rw [HFL.out]; exact HN.out, by rw [HFL.out]; exact HO.out.no F1.out, F1.out.of_no⟩
  · have hin : i < n := by have := HN.out; have := (List.getElem?_eq_some_iff.1 hb0).1; omega
    cases ao with
    | none => exfalso; have := HO.out.nocap rfl; omega
    | some g =>
      obtain ⟨hg0, -⟩ := HO.out.row g rfl
      obtain ⟨gb, goff, gsp⟩ := g
      cases hg0
      have hfi : (xs.take (i + 1)).filter (fun b => !(Pd b)) = xs.take i := by
        rw [List.take_add_one, hb0]
        simp only [Option.toList_some, List.filter_append, List.filter_cons, hpb, Bool.not_true, Bool.false_eq_true, if_false, List.filter_nil, List.append_nil]
        rw [List.filter_eq_self]; intro b hb; rw [hno b hb]; rfl
      have HFI := Lib.hid hfi
      have hi9 : ((i : Int) == -1) = false := by simp
      clear hb0 hpb hno hfi
      go_wp2_with fail
      go_loopw [5, 6] (fun t5 t6 wr => ∃ (k j : Nat) (ys : List Nat), k < j ∧ j ≤ n ∧ t5 = .int .i64 k ∧ t6 = .int .i64 j ∧ ys.length = n ∧ ys.take k = (xs.take j).filter (fun b => !(Pd b)) ∧ ys.drop j = xs.drop j ∧ Own wr 60 1 (some ⟨gb, 0, none⟩) n cap (ys.map evP) ∧ Fr (At (some ⟨gb, 0, none⟩)) w wr)
        (fun _ t6 _ => n - (intOf t6).toNat)
      case atStart => exact ⟨i, i + 1, xs, by omega, by omega, rfl, by go_num, HN.out.symm, HFI.out.symm, rfl, HO.out.no F1.out, F1.out.of_no⟩
      case round =>
        obtain ⟨k, j, ys, hkj, hj, rfl, rfl, hyl, hyt, hyd, hown, hf⟩ := hrel
        have HYL := Lib.hid hyl
        have HYT := Lib.hid hyt
        have HYD := Lib.hid hyd
        have HW := Lib.hid hown
        have HF := Lib.hid hf
        clear hyl hyt hyd hown hf
        by_cases hlt : j < n
        · obtain ⟨b, hb⟩ : ∃ b, xs[j]? = some b := ⟨xs[j]'(by rw [← HN.out]; exact hlt), List.getElem?_eq_getElem _⟩
          have hyb : ys[j]? = some b := by
            have := congrArg (fun l => l[0]?) HYD.out
            simpa [List.getElem?_drop, hb] using this
          have bj : (j : Int) < (n : Int) := by omega
          have bk : (k : Int) < (n : Int) := by omega
          have bk0 : (0 : Int) ≤ (k : Int) := by omega
          have c0 : wr.cell? ⟨gb, j, none⟩ = some (evP b) := by
            have := HW.out.sl.cell _ rfl j (evP b) (by rw [flatP, hyb]; rfl)
            rwa [Addr.add_lit, Nat.zero_add] at this
          unfold evP at c0
          obtain ⟨r, hr⟩ : ∃ r, Pd b = r := ⟨_, rfl⟩
          have HR := Lib.hid hr
          have HC := Lib.hid (HL.out wr HF.out b (List.mem_of_getElem? hb))
          rw [hr] at HC
          have hsn : (xs.take (j + 1)).filter (fun b => !(Pd b)) = (xs.take j).filter (fun b => !(Pd b)) ++ (if r then [] else [b]) := by
            rw [List.take_add_one, hb]
            simp only [Option.toList_some, List.filter_append, List.filter_cons, hr, List.filter_nil]
            cases r <;> rfl
          have HSN := Lib.hid hsn
          have HB := Lib.hid hb
          clear hb hyb hr hsn
          go_wp2_with fail
          refine HC.out.mono ?_
          rintro e w3 ⟨rfl, f3⟩
          have F3 := Lib.hid (HF.out.then_no f3)
          have W3 := Lib.hid (HW.out.no f3)
          clear f3 c0 HC HW HF
          cases r
          · obtain ⟨u, hu⟩ : ∃ u, ys[k]? = some u := ⟨ys[k]'(by rw [HYL.out]; omega), List.getElem?_eq_getElem _⟩
            have ck : w3.cell? ⟨gb, k, none⟩ = some (evP u) := by
              have := W3.out.sl.cell _ rfl k (evP u) (by rw [flatP, hu]; rfl)
              rwa [Addr.add_lit, Nat.zero_add] at this
            have cf := W3.out.free1 k
            unfold evP at ck
            clear hu
            go_wp2_with fail
            go_roundw
            case rel =>
              refine ⟨k + 1, j + 1, ys.set k b, by omega, by omega, by go_num, by go_num, by rw [List.length_set]; exact HYL.out, ?_, ?_, ?_, F3.out.setCell (p := ⟨gb, k, none⟩) (.inl ⟨_, rfl, rfl⟩) _⟩
              · have h1 := HSN.out
                simp only [Bool.false_eq_true, if_false] at h1
                rw [h1, ← HYT.out, List.take_add_one, List.getElem?_set, if_pos rfl, if_pos (by rw [HYL.out]; omega), List.take_set_of_le (Nat.le_refl k)]
                rfl
              · rw [List.drop_set_of_lt (by omega), ← List.drop_drop, HYD.out, List.drop_drop]
              · have := W3.out.setCell (j := k) (evP b)
                rw [← List.map_set] at this
                exact this
            case measure => simp [intOf]; omega
          · go_wp2_with fail
            go_roundw
            case rel =>
              refine ⟨k, j + 1, ys, by omega, by omega, by go_num, by go_num, HYL.out, ?_, ?_, W3.out, F3.out⟩
              · have h1 := HSN.out
                simp only [if_true, List.append_nil] at h1
                rw [h1]; exact HYT.out
              · rw [← List.drop_drop, HYD.out, List.drop_drop]
            case measure => simp [intOf]; omega
        · have hjn : j = n := by omega
          have htk : xs.take j = xs := List.take_of_length_le (by have := HN.out; omega)
          rw [htk] at HYT
          clear htk hjn
          have bk : (k : Int) ≤ (n : Int) := by omega
          have bk0 : (0 : Int) ≤ (k : Int) := by omega
          have bk2 : (k : Int) ≤ (cap : Int) := by omega
          have hc : ∀ t, t < n → wr.cell? ⟨gb, t, none⟩ = some (evP (ys.getD t 0)) := by
            intro t ht
            have := HW.out.sl.cell _ rfl t (evP (ys.getD t 0)) (by rw [flatP, List.getD_eq_getElem?_getD, List.getElem?_eq_getElem (show t < ys.length by rw [HYL.out]; exact ht)]; rfl)
            rwa [Addr.add_lit, Nat.zero_add] at this
          have hcl : ∀ ty, (Builtin.clear_ #[87] ty #[.slice (some ⟨gb, k, none⟩) (n - k) (cap - k)]).run Tryd.prog wr = .ok (.tuple #[]) (wr.setCells gb k (List.replicate (n - k) (.pointer none))) :=
            fun ty => Lib.run_clear_slice wr _ _ ty _ Tryd.underlying87 zeroP rfl rfl gb k _ _ (by omega) (fun t ht => by rw [hc (k + t) (by omega)]; rfl) (fun t ht => HW.out.free1 (k + t))
          have hkl : k = (xs.filter fun b => !(Pd b)).length := by rw [← HYT.out, List.length_take, HYL.out]; omega
          have HKL := Lib.hid hkl
          have W5 := Lib.hid (Own.setCells (List.replicate (n - k) (.pointer none)) k wr (HW.out.take (k := k) (by omega)) (Nat.le_refl k))
          have F5 := Lib.hid (Fr.setCells (g := gb) (show At (some ⟨gb, 0, none⟩) gb from ⟨_, rfl, rfl⟩) (List.replicate (n - k) (.pointer none)) k wr HF.out)
          clear hc hkl
          go_wp2_with fail
          go_ret
          refine ⟨k, rfl, HKL.out, ?_, F5.out⟩
          have h1 := W5.out
          rw [← List.map_take, HYT.out] at h1
          exact h1
end Go.Proofs.YticebdoiahadoaaDoor
namespace Go.Proofs.YticebdoiahadoaaDoor
open Go.RowKit
set_option linter.unusedVariables false
set_option linter.unusedSimpArgs false
/-- What MinFunc picks. -/
def minB (cf : Nat → Nat → Int) (x : Nat) (l : List Nat) : Nat := l.foldl (fun m b => if cf b m < 0 then b else m) x
theorem minB_snoc (cf : Nat → Nat → Int) (x : Nat) (l : List Nat) (b : Nat) : minB cf x (l ++ [b]) = if cf b (minB cf x l) < 0 then b else minB cf x l := by
  unfold minB
  rw [List.foldl_append]
  rfl
theorem minB_mem (cf : Nat → Nat → Int) (x : Nat) (l : List Nat) : minB cf x l ∈ x :: l := by
  unfold minB
  induction l generalizing x with
  | nil => simp
  | cons b l ih =>
    simp only [List.foldl_cons]
    split
    · have := ih b; simp at this ⊢; rcases this with h | h <;> simp [h]
    · have := ih x; simp at this ⊢; rcases this with h | h <;> simp [h]
def LooksC (w : World) (fk : Nat) (caps : Array Value) (xs : List Nat) (cf : Nat → Nat → Int) : Prop :=
  ∀ W, Fr No w W → ∀ b ∈ xs, ∀ c ∈ xs, Calls Tryd.prog fk (#[evP b, evP c] ++ caps) W fun r W' => r = .returned (.int .i64 (cf b c)) ∧ Fr No W W'

set_option maxRecDepth 100000 in
set_option maxHeartbeats 1000000 in
theorem fbMinFunc_any {w : World} {ao : Option Addr} {n cap x : Nat} {l : List Nat} (hn : n = (x :: l).length) (hn6 : n ≤ 1000000) (ho : Own w 60 1 ao n cap ((x :: l).map evP)) {fk : Nat} {caps : Array Value} {cf : Nat → Nat → Int} (hl : LooksC w fk caps (x :: l) cf)
    (eg : ∀ args w, (callFunc fk args).run Tryd.prog w = .ok (.enter fk args) w) :
    Calls Tryd.prog 46 #[.slice ao n cap, .func (.func fk) #[] caps] w fun e w' => e = .returned (evP (minB cf x l)) ∧ Fr No w w' := by
  have HN := Lib.hid hn
  have HO := Lib.hid ho
  have HL := Lib.hid hl
  have hc1 := ho.le
  have hc2 := ho.capLe
  have hn1 : 1 ≤ n := by rw [hn]; simp
  have hn0 : ¬ (n : Int) < 1 := by omega
  have hn2 : (0 : Int) < (n : Int) := by omega
  clear hn ho hl
  cases ao with
  | none => exfalso; have := HO.out.nocap rfl; omega
  | some g =>
    obtain ⟨hg0, -⟩ := HO.out.row g rfl
    obtain ⟨gb, goff, gsp⟩ := g
    cases hg0
    have c0 : w.cell? ⟨gb, 0, none⟩ = some (evP x) := by
      have := HO.out.sl.cell _ rfl 0 (evP x) (by simp)
      rwa [Addr.add_lit, Nat.zero_add] at this
    unfold evP at c0
    unfold evP
    go_enter Tryd.func46, Tryd.ntmps46
    go_wp2_with fail
    go_loopw [5, 6] (fun t5 t6 wr => ∃ (j : Nat), 1 ≤ j ∧ j ≤ n ∧ t6 = .int .i64 j ∧ t5 = .pointer (some ⟨minB cf x (l.take (j - 1)), 0, none⟩) ∧ Fr No w wr) (fun _ t6 _ => n - (intOf t6).toNat)
    case atStart => exact ⟨1, by omega, by omega, rfl, by simp [minB], Fr.refl _ _⟩
    case round =>
      clear c0
      obtain ⟨j, hj1, hj, rfl, rfl, hf⟩ := hrel
      have HF := Lib.hid hf
      clear hf
      obtain ⟨m, hm⟩ : ∃ m, minB cf x (l.take (j - 1)) = m := ⟨_, rfl⟩
      rw [hm]
      have HM := Lib.hid hm
      have hmm : m ∈ x :: l := by
        rw [← hm]
        have := minB_mem cf x (l.take (j - 1))
        rcases List.mem_cons.1 this with h | h
        · rw [h]; simp
        · exact List.mem_cons_of_mem _ (List.mem_of_mem_take h)
      have HMM := Lib.hid hmm
      clear hm hmm
      by_cases hlt : j < n
      · obtain ⟨b, hb⟩ : ∃ b, (x :: l)[j]? = some b := ⟨(x :: l)[j]'(by rw [← HN.out]; exact hlt), List.getElem?_eq_getElem _⟩
        have hb2 : l[j - 1]? = some b := by
          rw [show j = (j - 1) + 1 by omega, List.getElem?_cons_succ] at hb
          exact hb
        have bj : (j : Int) < (n : Int) := by omega
        have c0 : wr.cell? ⟨gb, j, none⟩ = some (evP b) := by
          have := (HO.out.no HF.out).sl.cell _ rfl j (evP b) (by rw [flatP, hb]; rfl)
          rwa [Addr.add_lit, Nat.zero_add] at this
        unfold evP at c0
        obtain ⟨r, hr⟩ : ∃ r, cf b m = r := ⟨_, rfl⟩
        have HC := Lib.hid (HL.out wr HF.out b (List.mem_of_getElem? hb) m HMM.out)
        rw [hr] at HC
        have hsn : minB cf x (l.take (j + 1 - 1)) = if r < 0 then b else m := by
          rw [show j + 1 - 1 = (j - 1) + 1 by omega, List.take_add_one, hb2]
          show minB cf x (l.take (j - 1) ++ [b]) = _
          rw [minB_snoc, HM.out, hr]
        have HSN := Lib.hid hsn
        clear hb hb2 hr hsn
        go_wp2_with fail
        refine HC.out.mono ?_
        rintro e w3 ⟨rfl, f3⟩
        have F3 := Lib.hid (HF.out.then_no f3)
        have HO3 := Lib.hid (HO.out.no F3.out)
        have c3 : w3.cell? ⟨gb, j, none⟩ = some (.pointer (some ⟨b, 0, none⟩)) := f3.cell c0 (fun h => h)
        clear f3 c0 HC
        by_cases hrn : r < 0
        · go_wp2_with fail
          go_roundw
          case rel => exact ⟨j + 1, by omega, by omega, by go_num, by rw [HSN.out, if_pos hrn], F3.out⟩
          case measure => simp [intOf]; omega
        · go_wp2_with fail
          go_roundw
          case rel => exact ⟨j + 1, by omega, by omega, by go_num, by rw [HSN.out, if_neg (by omega)], F3.out⟩
          case measure => simp [intOf]; omega
      · have htk : l.take (j - 1) = l := List.take_of_length_le (by have := HN.out; simp at this; omega)
        rw [htk] at HM
        clear htk
        go_wp2_with fail
        go_ret
        refine ⟨?_, HF.out⟩
        rw [HM.out]
        rfl
end Go.Proofs.YticebdoiahadoaaDoor
namespace Go.Proofs.YticebdoiahadoaaDoor
open Go.RowKit
set_option linter.unusedVariables false
set_option linter.unusedSimpArgs false
def cmpZ (x y : Int) : Int := if x < y then -1 else if y < x then 1 else 0

theorem nanU64_any (x : Int) (w : World) : Calls Tryd.prog 55 #[.int .u64 x] w fun e w' => e = .returned (.bool false) ∧ w = w' := by
  go_enter Tryd.func55, Tryd.ntmps55
  go_wp2
  go_ret
  exact ⟨rfl, rfl⟩
theorem cmpU64_any (x y : Int) (w : World) : Calls Tryd.prog 53 #[.int .u64 x, .int .u64 y] w fun e w' => e = .returned (.int .i64 (cmpZ x y)) ∧ w = w' := by
  have H : ∀ z, cmpZ x y = z → Hid (cmpZ x y = z) := fun _ h => Lib.hid h
  by_cases h1 : x < y
  · have h := H (-1) (by unfold cmpZ; rw [if_pos h1])
    clear H
    go_enter Tryd.func53, Tryd.ntmps53
    go_wp2_with (first | (go_at_call 55; refine (nanU64_any _ _).mono ?_; rintro e w1 ⟨rfl, rfl⟩))
    go_ret
    rw [h.out]; exact ⟨rfl, rfl⟩
  · by_cases h2 : y < x
    · have h := H 1 (by unfold cmpZ; rw [if_neg h1, if_pos h2])
      clear H
      go_enter Tryd.func53, Tryd.ntmps53
      go_wp2_with (first | (go_at_call 55; refine (nanU64_any _ _).mono ?_; rintro e w1 ⟨rfl, rfl⟩))
      go_ret
      rw [h.out]; exact ⟨rfl, rfl⟩
    · have h := H 0 (by unfold cmpZ; rw [if_neg h1, if_neg h2])
      clear H
      go_enter Tryd.func53, Tryd.ntmps53
      go_wp2_with (first | (go_at_call 55; refine (nanU64_any _ _).mono ?_; rintro e w1 ⟨rfl, rfl⟩))
      go_ret
      rw [h.out]; exact ⟨rfl, rfl⟩
/-- The first one that is not zero. -/
def orL : List Int → Int
  | [] => 0
  | x :: r => if x = 0 then orL r else x
theorem orL_drop {l : List Int} {k : Nat} (h : k < l.length) : orL (l.drop k) = if l.getD k 0 = 0 then orL (l.drop (k + 1)) else l.getD k 0 := by
  rw [List.drop_eq_getElem_cons h]
  simp [orL, h]
theorem cmpOr_any (zs : List Int) (a : Addr) (c : Nat) (w : World) (hc : ∀ i, i < zs.length → w.cell? (a.add i) = some (.int .i64 (zs[i]?.getD 0))) (hl : zs.length ≤ 1000) :
    Calls Tryd.prog 52 #[.slice (some a) zs.length c] w fun e w' => e = .returned (.int .i64 (orL zs)) ∧ w = w' := by
  go_enter Tryd.func52, Tryd.ntmps52
  go_wp2
  go_loop [5, 8] (fun _ i => ∃ k : Nat, k ≤ zs.length ∧ i = .int .i64 k ∧ orL (zs.drop k) = orL zs) (fun _ i => zs.length - (intOf i).toNat)
  case atStart => exact ⟨0, Nat.zero_le _, rfl, rfl⟩
  case round =>
    obtain ⟨k, hk, rfl, ho⟩ := hrel
    have HO := Lib.hid ho
    clear ho
    by_cases hlt : k < zs.length
    · have hcell := hc k hlt
      have hs := orL_drop hlt
      have HS := Lib.hid hs
      have HC := Lib.hid hc
      clear hs hc
      obtain ⟨z, hz⟩ : ∃ z, zs[k]?.getD 0 = z := ⟨_, rfl⟩
      rw [hz] at hcell
      have HZ := Lib.hid hz
      clear hz
      by_cases h0 : z = 0
      · subst h0
        go_wp2
        go_round
        case rel => exact ⟨k + 1, by omega, by go_num, by have e := HS.out; rw [HO.out] at e; rw [e, if_pos (by simpa using HZ.out)]⟩
        case measure => simp [intOf]; omega
      · go_wp2
        go_ret
        refine ⟨?_, rfl⟩
        have e := HS.out
        rw [HO.out] at e
        have hg : zs.getD k 0 = z := by simpa using HZ.out
        rw [e, hg, if_neg h0]
        rfl
    · have e0 : orL zs = 0 := by rw [← HO.out, List.drop_of_length_le (by omega)]; rfl
      have E0 := Lib.hid e0
      clear e0 HO hc
      go_wp2
      go_ret
      rw [E0.out]
      exact ⟨rfl, rfl⟩


def cmpA (x y : En) : Int := orL [cmpZ x.at_ y.at_, cmpM x.mac y.mac]
set_option maxRecDepth 100000 in
set_option maxHeartbeats 1000000 in
theorem fbCompare_any {w : World} {b c : Nat} {x y : En} (hx : EnAt w b x) (hy : EnAt w c y) {r : Int} (hr : cmpA x y = r) : Calls Tryd.prog 47 #[evP b, evP c] w fun e w' => e = .returned (.int .i64 r) ∧ Fr No w w' := by
  obtain ⟨c0, -, -, -, -, -, -, -, c8, -⟩ := hx.cells
  obtain ⟨d0, -, -, -, -, -, -, -, d8, -⟩ := hy.cells
  have HR : Hid (orL [cmpZ x.at_ y.at_, cmpM x.mac y.mac] = r) := Lib.hid hr
  have B1 := Lib.hid (enBs hx)
  have B2 := Lib.hid (enBs hy)
  have HC := Lib.hid (fun W => cmpU64_any x.at_ y.at_ W)
  have HD := Lib.hid (bCompare_any (B1.out.no (Fr.refl No w).drew) (B2.out.no (Fr.refl No w).drew))
  clear hr hx hy
  unfold evP
  go_enter Tryd.func47, Tryd.ntmps47
  go_wp2_with fail
  go_still_tail 18, (by kernel_rfl)
  still_call ((HC.out _).mono fun _ _ ⟨he, hw⟩ => ⟨he, hw.symm⟩)
  repeat still_step
  still_call (HD.out.mono fun _ _ ⟨he, hw⟩ => ⟨he, hw⟩)
  repeat still_step
  try refine wpStill_nil ?_
  change wpList _ _ _ _ _ w.drew
  have HRR : Hid (orL [cmpZ x.at_ y.at_, Lib.compareBytes (macL x.mac) (macL y.mac)] = r) := HR
  clear c0 c8 d0 d8 HC HD B1 B2 HR
  generalize cmpZ x.at_ y.at_ = r1 at HRR ⊢
  generalize Lib.compareBytes (macL x.mac) (macL y.mac) = r2 at HRR ⊢
  have hb := heap_alloc_new w.drew (.cells #[.int .i64 r1, .int .i64 r2] 3)
  have HO := Lib.hid (cmpOr_any [r1, r2] ⟨w.drew.heap.size, 0, none⟩ 2 (w.drew.alloc (.cells #[.int .i64 r1, .int .i64 r2] 3)) (by
    intro i hi
    rw [show (⟨w.drew.heap.size, 0, none⟩ : Addr).add i = ⟨w.drew.heap.size, i, none⟩ from by rw [Addr.add_lit, Nat.zero_add], cell_of_row _ _ i _ _ _ hb]
    simp at hi
    rcases (by omega : i = 0 ∨ i = 1) with rfl | rfl <;> rfl) (by simp))
  rw [HRR.out] at HO
  clear hb
  go_wp2_with (go_at_call 52; refine Calls.mono HO.out ?_; rintro e w' ⟨rfl, rfl⟩)
  go_ret
  exact ⟨rfl, ((Fr.refl No w).drew).alloc _⟩
end Go.Proofs.YticebdoiahadoaaDoor
namespace Go.Proofs.YticebdoiahadoaaDoor
open Go.RowKit Go.Shelf
set_option linter.unusedVariables false
set_option linter.unusedSimpArgs false
attribute [local go_sem] Oper.semAt_some

set_option maxRecDepth 100000 in
set_option maxHeartbeats 1000000 in
theorem fbValues1_in (Fe : Fence) (n : Nat) (h8 : Fe.fn 50) (hro : Fe.round = none) (hn : 1 ≤ n) (l Bm mb : Nat) (m : List (Mac × Nat)) (J Jx : List Nat → World → Prop)
    (hY : ∀ pre x W, J pre W → pre.length < m.length → YieldAt Fe (n - 1) Tryd.prog l #[evP x] W fun e W' =>
      (e = .returned (.bool true) ∧ J (pre ++ [x]) W' ∧ KeepsWalks W W') ∨ (e = .returned (.bool false) ∧ Jx (pre ++ [x]) W'))
    (W : World) (hJ : AbidesFrom W.heap.size J) (hm : W.cell? ⟨Bm, 0, none⟩ = some (.map (some mb))) (hmp : Mp okM evM evP W mb m) (h0 : J [] W) :
    CallsIn Fe n Tryd.prog 50 #[.func (.yield l) #[] #[], .pointer (some ⟨Bm, 0, none⟩)] W fun e W' => (∃ v, e = .returned v) ∧
      ((∃ xs, xs.Perm (m.map (·.2)) ∧ J xs W') ∨ (∃ pre, True ∧ Jx pre W')) := by
  refine callsIn_of_wp Tryd.func50 rfl h8 ?_ hro
  simp only [Tryd.ntmps50, List.size_toArray, List.length_cons, List.length_nil, Nat.reduceAdd, Nat.reduceSub, Array.replicate_succ, Array.replicate_zero, List.push_toArray, List.append_toArray, List.nil_append, List.cons_append]
  gi_wp2_with (first
    | (gi_at_range; refine wpListIn_range_mp rfl _ 61 rfl Tryd.underlying61 rfl hmp ?_; intro w0 hrg0 hg0 hs0)
    | gi_in)
  go_frame
  gi_loopw [4] (fun _ wr => ∃ (left ps : List (Mac × Nat)), Rg okM evM evP wr mb W.heap.size m left ∧ (ps ++ left).Perm m ∧ J (ps.map (·.2)) wr)
    (fun _ wr => wr.rangeLeft mb W.heap.size)
  case atStart =>
    exact ⟨_, [], hrg0, by simp, hJ [] W w0 none h0 hg0 (fun r e => by cases e)⟩
  case round =>
    obtain ⟨left, ps, hrg, hpm, hJs⟩ := hrel
    gi_wp2_with (first
      | (gi_at_next; refine wpListIn_next_mp rfl _ rfl keM rfl hrg ?_ ?_)
      | gi_in)
    · intro hl0
      gi_wp2
      go_end0
      subst hl0
      exact ⟨⟨_, rfl⟩, .inl ⟨_, (by simpa using hpm.map (·.2)), hJs⟩⟩
    · intro k v w2 hp hrg2 hg2 hs2 hen
      simp only [evM, evP] at hen ⊢
      have hlen : ps.length < m.length := by
        have h1 := hpm.length_eq
        have h2 : 0 < left.length := List.length_pos_of_mem hp
        simp at h1; omega
      have hpm2 : ((ps ++ [(k, v)]) ++ mdel left k).Perm m := by
        refine List.Perm.trans ?_ hpm
        rw [List.append_assoc]
        exact (perm_mdel hrg.ndl hp).symm.append_left ps
      have hlt : (mdel left k).length < left.length := by
        have := (perm_mdel hrg.ndl hp).length_eq
        simp at this; omega
      have hJ2 : J (ps.map (·.2)) w2 := hJ _ wr w2 (some W.heap.size) hJs hg2 (fun r e => by cases e; exact ⟨Nat.le_refl _, hrg.iter⟩)
      obtain ⟨fn, tmps, assign, body, hy, hR⟩ := hY (ps.map (·.2)) v _ hJ2 (by simpa using hlen)
      simp only [evP] at hy
      have HP := Lib.hid hpm2
      have HR := Lib.hid hrg2
      have HL := Lib.hid hlt
      have HRG := Lib.hid hrg
      clear hs2 hpm hpm2 hrg2 hJ2 hlt hlen hrg hp
      gi_wp2
      refine hR.mono ?_
      rintro e W3 (⟨rfl, hJ3, hk3⟩ | ⟨rfl, hJx3⟩)
      · gi_wp2
        have hrg4 := HR.out.kept hk3
        go_roundw
        case rel => exact ⟨_, ps ++ [(k, v)], hrg4, HP.out, by simpa using hJ3⟩
        case measure => rw [hrg4.left_eq, HRG.out.left_eq]; exact HL.out
      · gi_wp2
        refine bodyPost_ret (results_none rfl _ _ _) rfl ?_
        exact ⟨⟨_, rfl⟩, .inr ⟨_, trivial, hJx3⟩⟩

/-- maps.Values hands back a value that gives the pointers. -/
theorem fbValues_in (Fe : Fence) (n : Nat) (hf : Fe.fn 43) (hro : Fe.round = none) (mb : Option Nat) (w : World) :
    CallsIn Fe n Tryd.prog 43 #[.map mb] w fun e w' => e = .returned (.func (.func 50) #[] #[.pointer (some ⟨w.heap.size, 0, none⟩)]) ∧ w' = w.alloc (.cells #[.map mb] 61) := by
  refine callsIn_of_wp Tryd.func43 rfl hf ?_ hro
  simp only [Tryd.ntmps43, List.size_toArray, List.length_cons, List.length_nil, Nat.reduceAdd, Nat.reduceSub, Array.replicate_succ, Array.replicate_zero, List.push_toArray, List.append_toArray, List.nil_append, List.cons_append]
  gi_wp2
  go_ret
  exact ⟨rfl, rfl⟩
theorem fbValues_stops (Fe : Fence) (n : Nat) (h7 : Fe.fn 50) (hro : Fe.round = none) (hn : 1 ≤ n) (Bm mb : Nat) (m : List (Mac × Nat)) (w : World) (hBm : Bm < w.heap.size)
    (hm : w.cell? ⟨Bm, 0, none⟩ = some (.map (some mb))) (hmp : Mp okM evM evP w mb m) :
    SeqStopsK Fe n Tryd.prog 50 #[.pointer (some ⟨Bm, 0, none⟩)] (fun x => #[evP x]) KeepsWalks (fun xs => xs.Perm (m.map (·.2))) (fun _ => True) m.length w := fun l J Jx W hW hJ _ hY h0 =>
  fbValues1_in Fe n h7 hro hn l Bm mb m J Jx hY W hJ ((hW.cell (p := ⟨Bm, 0, none⟩) hBm).trans hm) (hmp.below hW hmp.lt) h0
end Go.Proofs.YticebdoiahadoaaDoor
namespace Go.Proofs.YticebdoiahadoaaDoor
open Go.RowKit Go.Shelf
set_option linter.unusedVariables false
set_option linter.unusedSimpArgs false
attribute [local go_sem] Oper.semAt_some

theorem info_pfentry : (Tryd.prog.info? 60).map (fun i => (i.zero, i.size, i.bytes)) = some (some (.pointer none), 1, 8) := by kernel_rfl
theorem cellsAt {w : World} {b : Nat} {cs : Array Value} {e : TypeId} {f : Nat × Nat} (h : w.heap[b]? = some (.cells cs e f)) : ∀ j u, cs.toList[j]? = some u → w.cell? ((⟨b, 0, none⟩ : Addr).add j) = some u := by
  intro j u hu
  rw [Addr.add_lit, Nat.zero_add, cell_of_row w b j cs e f h]
  simpa using hu

set_option maxRecDepth 100000 in
set_option maxHeartbeats 4000000 in
theorem fbAppendSeq_in (Fe : Fence) (n : Nat) (h3 : Fe.fn 49) (hro : Fe.round = none) (hn : 4 ≤ n) {gf : Nat} (hgf : Fe.fn gf) (lb : Array Value) (eg : ∀ args w, (callFunc gf args).run Tryd.prog w = .ok (.enter gf args) w)
    {S Sp : List Nat → Prop} {N : Nat} (hN : N ≤ 1000000) (w : World) (hseq : SeqStopsK Fe (n - 1) Tryd.prog gf lb (fun x => #[evP x]) KeepsWalks S Sp N w) :
    CallsIn Fe n Tryd.prog 49 #[.slice none 0 0, .func (.func gf) #[] lb] w fun e W' => ∃ v xs, e = .returned v ∧ S xs ∧ xs.length ≤ N ∧ W'.ownsRow w.heap.size 60 1 v xs.length (xs.map evP) ∧ Below w.heap.size w W' := by
  have h1 : 1 ≤ n := by omega
  obtain ⟨i0, hi, hz0, hz1, hz2⟩ := info_parts info_pfentry
  refine callsIn_of_wp_marks Tryd.func49 rfl h3 ?_ hro
  simp only [Tryd.ntmps49, List.size_toArray, List.length_cons, List.length_nil, Nat.reduceAdd, Nat.reduceSub, Array.replicate_succ, Array.replicate_zero, List.push_toArray, List.append_toArray, List.nil_append, List.cons_append]
  gi_wp2
  have bS := Boxed.new w 87 (.slice none 0 0)
  have hB0 : Below w.heap.size w (w.alloc (.cells #[.slice none 0 0] 87)) := (Below.refl _ w).alloc (Nat.le_refl _) _
  have hsz : (w.alloc (.cells #[.slice none 0 0] 87)).heap.size = w.heap.size + 1 := by simp
  obtain ⟨W0, hW0⟩ : ∃ W0, w.alloc (.cells #[.slice none 0 0] 87) = W0 := ⟨_, rfl⟩
  rw [hW0] at bS hB0 hsz ⊢
  clear hW0
  refine wpIn_rangeFunc_ownH hro h1 (gf := gf) (lb := lb) rfl hgf eg hseq walksK_t walksK_b hB0 (fun _ => rfl)
    (fun pre W => ((∃ v, Boxed W w.heap.size 87 v ∧ W.ownsRow w.heap.size 60 1 v pre.length (pre.map evP) ∧ (v = .slice none 0 0 ↔ pre = [])) ∧ Below w.heap.size w W) ∧ pre.length ≤ N)
    (fun _ _ _ => False)
    (OwnFrom.and (OwnFrom.and (Go.Own.from (holdsRow_own w.heap.size w.heap.size 87 60 1 (fun pre : List Nat => pre.length) (fun pre => pre.map evP) (fun pre v => v = .slice none 0 0 ↔ pre = [])) _) (ownFrom_below (Nat.le_refl _) (by omega))) (fun _ _ _ _ h _ _ => h))
    (fun _ _ _ _ _ hs _ _ => hs)
    ⟨⟨⟨.slice none 0 0, bS, World.ownsRow_nil _ _ _ _, by simp⟩, hB0⟩, Nat.zero_le _⟩
    (fun x a' W => a' = { tmps := #[.slice none 0 0, .func (.func gf) #[] lb, .pointer (some ⟨w.heap.size, 0, none⟩), undef, .slice none 0 0, evP x, .func (.func gf) #[] lb, evP x, undef, undef, undef, undef, undef], defers := [] })
    (fun x a' _ X Y row hs hg hr => hs)
    ?assign ?body ?done ?stop
  case assign =>
    rintro l pre x W K hJ hK
    simp only [evP]
    have HK := Lib.hid hK
    clear hK
    gi_wp2
    exact HK.out _ _ (KeepsOthers.refl _ |>.from _) (keeps_of_others (KeepsOthers.refl _)) hJ rfl
  case body =>
    rintro l pre x a' W hl hrec ⟨⟨⟨v, bS1, hr1, hv1⟩, hB1⟩, hN1⟩ rfl hlt
    have cS := bS1.cell
    have hsW := hB1.size
    have HV := Lib.hid hv1
    clear hv1 hrec
    simp only [evP]
    gi_wp2_with (first | (gi_at_builtin; refine wpListIn_append_own _ rfl _ _ 87 rfl w.heap.size 60 i0 _ 1 8 Tryd.underlying87 hi hz0 hz1 hz2 rfl (by decide) _ _ _ rfl (hr1.alloc _) ⟨W.heap.size, 0, none⟩ 1 1 [evP x] rfl rfl (cellsAt (heap_alloc_new W _)) (by simp [evP, Value.oneCell']) (by unfold maxLen; omega) (by omega) (by have := hB1.size; simp; omega) ?_; intro v' w1 hown' hgrow _; obtain ⟨g', cap', rfl⟩ := ownsRow_succ hown'; obtain ⟨hv1', hv2, hr2, hk2, hb2⟩ := bS1.appended (by decide) hr1 hsW (Nat.le_refl _) hown' hgrow; have hc1 := hv1'.cell; have hf1 := hv1'.frozen) | gi_in)
    exact ⟨hk2.from _, keeps_of_others hk2, ⟨⟨⟨_, hv2, by rw [List.map_append]; simpa using hr2, by simp⟩, hB1.trans hb2⟩, by simp; omega⟩⟩
  case done =>
    rintro D xs W hD hS ⟨⟨⟨v, bS1, hr1, hv1⟩, hB1⟩, hN1⟩ hK
    have cS := bS1.cell
    gi_wp2
    refine ⟨by simp, .inl ⟨_, _, rfl, run_takeDeferred hK, ?_⟩⟩
    exact ⟨_, results_tmp rfl _ _ _, v, xs, rfl, hS, hN1, ownsRow_putObj hr1 _ hK rfl, hB1.trans (belowK_b (w := w) (Nat.le_refl _) W D _ _ (by omega) hK rfl rfl)⟩
  case stop =>
    rintro D c pre W _ _ h _
    exact h.elim

/-- slices.Collect(maps.Values(..)): a new slice, or nil. -/
theorem fbCollect_any {mb Bm : Nat} {m : List (Mac × Nat)} (w : World) (hm : w.cell? ⟨Bm, 0, none⟩ = some (.map (some mb))) (hmp : Mp okM evM evP w mb m) (hl : m.length ≤ 1000000) :
    Calls Tryd.prog 42 #[.func (.func 50) #[] #[.pointer (some ⟨Bm, 0, none⟩)]] w fun e W' => ∃ (v : Value) (xs : List Nat), e = .returned v ∧ xs.Perm (m.map (·.2)) ∧ xs.length ≤ m.length ∧ W'.ownsRow w.heap.size 60 1 v xs.length (xs.map evP) ∧ Below w.heap.size w W' := by
  have h := fun W hm hmp => callsIn_wide.1 (fbAppendSeq_in Fence.wide 5 trivial rfl (by omega) (gf := 50) trivial #[.pointer (some ⟨Bm, 0, none⟩)] (enters_of Tryd.func50 (by kernel_rfl) rfl) (N := m.length) hl W
    (fbValues_stops Fence.wide 4 trivial rfl (by omega) Bm mb m W (lt_of_cell hm) hm hmp))
  have H := Lib.hid (h w hm hmp)
  clear h
  go_enter Tryd.func42, Tryd.ntmps42
  go_wp2_with (go_at_call 49; refine Calls.mono H.out ?_; rintro e w1 ⟨v, xs, rfl, h1, h2, h3, h4⟩)
  go_ret
  exact ⟨v, xs, rfl, h1, h2, h3, h4⟩
end Go.Proofs.YticebdoiahadoaaDoor
namespace Go.Proofs.YticebdoiahadoaaDoor
open Go.RowKit
set_option linter.unusedVariables false
set_option linter.unusedSimpArgs false
/-- What add does. -/
def AddF (room : Int) (L : FL) (e : En) (eb : Nat) (c : Int) (L' : FL) : Prop :=
  ((L.length : Int) < room ∧ c = 0 ∧ L' = mput L e.mac (eb, e)) ∨
  (room ≤ (L.length : Int) ∧ (∀ p ∈ L, p.2.2.st = true) ∧ c = 5 ∧ L' = L) ∨
  (room ≤ (L.length : Int) ∧ c = 0 ∧ ∃ p ∈ L, p.2.2.st = false ∧ (∀ q ∈ L, q.2.2.st = false → ¬ cmpA q.2.2 p.2.2 < 0) ∧ L' = mput (mdel L p.1) e.mac (eb, e))
def AddPF (w : World) (tb mb : Nat) (room life : Int) (L : FL) (e : En) (r : Ending) (w' : World) : Prop :=
  ∃ (c : Int) (L' : FL), r = .returned (.int .i64 c) ∧ AddF room L e w.heap.size c L' ∧ Fd w' tb mb room life L' ∧ Fr (Is mb) w w'

theorem Fd.lenRun {w : World} {tb mb : Nat} {room life : Int} {L : FL} (h : Fd w tb mb room life L) (W : World) (hW : W.heap[mb]? = w.heap[mb]?) :
    (Builtin.len_ #[61] 3 #[.map (some mb)]).run Tryd.prog W = .ok (.int .i64 (L.length : Int)) W := by
  have h1 := (h.mp.of_heap hW).len (P := Tryd.prog) Tryd.underlying61 3
  rw [List.length_map] at h1
  exact h1
theorem mput_pr (L : FL) (k : Mac) (b : Nat) (e : En) : (mput L k (b, e)).map pr = mput (L.map pr) k b := by
  unfold mput
  have hg : mget (L.map pr) k = (mget L k).map (·.1) := by
    unfold mget
    rw [List.find?_map, Option.map_map, Option.map_map]
    rfl
  rw [hg, Option.isSome_map]
  split
  · rw [List.map_map, List.map_map]
    apply List.map_congr_left
    intro p hp
    simp only [Function.comp]
    show pr (if p.1 = k then (k, b, e) else p) = if (pr p).1 = k then (k, b) else pr p
    by_cases h : p.1 = k
    · rw [if_pos h, if_pos (show (pr p).1 = k from h)]; rfl
    · rw [if_neg h, if_neg (show ¬ (pr p).1 = k from h)]
  · rw [List.map_append]; rfl
/-- One more entry, in a block of its own. -/
theorem Fd.put {w w' : World} {tb mb : Nat} {room life : Int} {L : FL} (h : Fd w tb mb room life L) {e : En} {eb : Nat} (hg : mget L e.mac = none) (hl : (L.length : Int) < room) (hok : e.ok) (he : EnAt w' eb e) (hnew : ∀ p ∈ L, p.2.1 ≠ eb)
    (hm : Mp okM evM evP w' mb (mput (L.map pr) e.mac eb)) (hf : Fr (Is mb) w w') : Fd w' tb mb room life (mput L e.mac (eb, e)) := by
  have hp : mput L e.mac (eb, e) = L ++ [(e.mac, eb, e)] := by unfold mput; rw [hg]; rfl
  have hr := h.rom
  refine ⟨hf.heap h.box (fun e => h.tne e), by rw [mput_pr]; exact hm, ?_, ?_, ?_, ?_, ?_, h.lif, h.rom, by rw [hp]; simp; omega⟩
  · intro p hp2; rw [hp] at hp2
    rcases List.mem_append.1 hp2 with hp2 | hp2
    · exact hf.heap (h.ent p hp2) (fun e => h.bne p hp2 e)
    · rw [List.mem_singleton] at hp2; rw [hp2]; exact he
  · intro p hp2; rw [hp] at hp2
    rcases List.mem_append.1 hp2 with hp2 | hp2
    · exact h.key p hp2
    · rw [List.mem_singleton] at hp2; rw [hp2]
  · intro p hp2; rw [hp] at hp2
    rcases List.mem_append.1 hp2 with hp2 | hp2
    · exact h.ok p hp2
    · rw [List.mem_singleton] at hp2; rw [hp2]; exact hok
  · rw [hp, List.map_append, List.nodup_append]
    refine ⟨h.dis, by simp, ?_⟩
    intro a ha b hb hab
    simp at hb
    obtain ⟨p, hp2, rfl⟩ := List.mem_map.1 ha
    exact hnew p hp2 (hab.trans hb)
  · rw [hp]; simp; omega

set_option maxRecDepth 100000 in
set_option maxHeartbeats 2000000 in
theorem fbAdd_room {w : World} {tb mb : Nat} {room life : Int} {L : FL} (h : Fd w tb mb room life L) {e : En} (hok : e.ok) (hg : mget L e.mac = none) (hl : (L.length : Int) < room) :
    Calls Tryd.prog 36 #[.pointer (some ⟨tb, 0, none⟩), evE e] w (AddPF w tb mb room life L e) := by
  have H := Lib.hid h
  have HK := Lib.hid hok
  have HG := Lib.hid hg
  have hlm := h.mp.lt
  have hlt := lt_of_heap h.box
  clear h hok hg
  unfold evE
  go_enter Tryd.func36, Tryd.ntmps36
  go_wp2_with fail
  have f2 := (Fr.refl No w).alloc (.cells #[byteV e.mac.a, byteV e.mac.b, byteV e.mac.c, byteV e.mac.d, byteV e.mac.e, byteV e.mac.f, .bool e.tun, .int .i64 e.n, .int .u64 e.at_, .bool e.st] 66)
  have b1 : EnAt (w.alloc (.cells #[byteV e.mac.a, byteV e.mac.b, byteV e.mac.c, byteV e.mac.d, byteV e.mac.e, byteV e.mac.f, .bool e.tun, .int .i64 e.n, .int .u64 e.at_, .bool e.st] 66)) w.heap.size e := heap_alloc_new w _
  have H2 := Lib.hid (H.out.no f2)
  have F2 := Lib.hid f2
  have B1 := Lib.hid b1
  clear f2 b1
  generalize w.alloc (.cells #[byteV e.mac.a, byteV e.mac.b, byteV e.mac.c, byteV e.mac.d, byteV e.mac.e, byteV e.mac.f, .bool e.tun, .int .i64 e.n, .int .u64 e.at_, .bool e.st] 66) = w2 at B1 H2 F2 ⊢
  obtain ⟨k0, k1, k2⟩ := H2.out.cells
  have ln := fun n => H2.out.lenRun (w2.drewN n) rfl
  have hlr : decide (room ≤ (L.length : Int)) = false := by simp; omega
  have hlr2 : ¬ room ≤ (L.length : Int) := by omega
  go_quiet (fail)
  generalize hw3 : World.drewN _ _ = w3
  have H3 := Lib.hid (show Fd w3 tb mb room life L by rw [← hw3]; exact H2.out.no ((Fr.refl _ _).drewN _))
  have B3 := Lib.hid (show EnAt w3 w.heap.size e by rw [← hw3]; exact B1.out)
  have F3 := Lib.hid (show Fr No w w3 by rw [← hw3]; exact F2.out.drewN _)
  clear hw3 k0 k1 k2 ln B1 H2 F2
  obtain ⟨k0, k1, k2⟩ := H3.out.cells
  obtain ⟨c0, c1, c2, c3, c4, c5, c6, c7, c8, c9⟩ := B3.out.cells
  go_wp2_with fail
  obtain ⟨w4, hp, m4, f4, s4⟩ := Mp.put (w := w3.drew) (H3.out.mp.of_heap rfl) keM (P := Tryd.prog) Tryd.underlying61 (k := e.mac) trivial w.heap.size
  simp only [evM, evP] at hp
  have hbm : w.heap.size ≠ mb := by omega
  have hr64 := H3.out.rom
  have H4 := Lib.hid (H3.out.put HG.out hl HK.out (f4.heap B3.out (fun h => hbm h)) (fun p hp => by have := H.out.lt p hp; omega) m4 ((Fr.refl (Is mb) w3).drew.trans f4))
  have F4 := Lib.hid (F3.out.of_no.trans ((Fr.refl (Is mb) w3).drew.trans f4))
  clear m4 f4 s4
  go_region
  go_wp2_with fail
  go_ret
  exact ⟨0, _, rfl, .inl ⟨hl, rfl, rfl⟩, H4.out, F4.out⟩
end Go.Proofs.YticebdoiahadoaaDoor
namespace Go.Proofs.YticebdoiahadoaaDoor
open Go.RowKit
set_option linter.unusedVariables false
set_option linter.unusedSimpArgs false
theorem cmpZ_cases (x y : Int) : (x < y ∧ cmpZ x y = -1) ∨ (x = y ∧ cmpZ x y = 0) ∨ (y < x ∧ cmpZ x y = 1) := by
  unfold cmpZ
  by_cases h1 : x < y
  · exact .inl ⟨h1, by rw [if_pos h1]⟩
  · by_cases h2 : y < x
    · exact .inr (.inr ⟨h2, by rw [if_neg h1, if_pos h2]⟩)
    · exact .inr (.inl ⟨by omega, by rw [if_neg h1, if_neg h2]⟩)
theorem cmpA_neg (x y : En) : cmpA x y < 0 ↔ x.at_ < y.at_ ∨ (x.at_ = y.at_ ∧ ltM x.mac y.mac = true) := by
  have h := cmpM_neg x.mac y.mac
  unfold cmpA orL orL orL
  rcases cmpZ_cases x.at_ y.at_ with ⟨h1, e⟩ | ⟨h1, e⟩ | ⟨h1, e⟩ <;> rw [e]
  · simp; exact .inl h1
  · rw [if_pos rfl]
    constructor
    · intro h2
      refine .inr ⟨h1, ?_⟩
      rw [← h]
      by_cases h3 : cmpM x.mac y.mac = 0
      · rw [if_pos h3] at h2; omega
      · rw [if_neg h3] at h2; simpa using h2
    · rintro (h2 | ⟨-, h2⟩)
      · omega
      · rw [← h] at h2
        have h3 : cmpM x.mac y.mac < 0 := by simpa using h2
        rw [if_neg (by omega)]; exact h3
  · simp; omega
/-- What MinFunc picks is least. -/
theorem minB_least (cf : Nat → Nat → Int) (hT : ∀ a b c, ¬ cf a b < 0 → ¬ cf b c < 0 → ¬ cf a c < 0) (hI : ∀ a, ¬ cf a a < 0) (hAs : ∀ a b, cf a b < 0 → ¬ cf b a < 0) (x : Nat) (l : List Nat) : ∀ b ∈ x :: l, ¬ cf b (minB cf x l) < 0 := by
  rw [← List.reverse_reverse l]
  induction l.reverse with
  | nil => intro b hb; simp at hb; subst hb; exact hI _
  | cons y l ih =>
    rw [List.reverse_cons, minB_snoc]
    intro b hb
    have hb2 : b ∈ x :: l.reverse ∨ b = y := by simp at hb ⊢; rcases hb with h | h | h <;> simp [h]
    split
    · rename_i hlt
      rcases hb2 with h | rfl
      · exact hT _ _ _ (ih b h) (hAs _ _ hlt)
      · exact hI _
    · rename_i hlt
      rcases hb2 with h | rfl
      · exact ih b h
      · exact hlt
theorem cmpA_trans (x y z : En) (h1 : ¬ cmpA x y < 0) (h2 : ¬ cmpA y z < 0) : ¬ cmpA x z < 0 := by
  rw [cmpA_neg] at *
  intro h3
  have e1 : ∀ a b : En, ltM a.mac b.mac = false → ltM b.mac a.mac = true ∨ a.mac = b.mac := by
    intro a b h
    by_cases hab : a.mac = b.mac
    · exact .inr hab
    · exact .inl (ltM_total h hab)
  have f1 : ¬ x.at_ < y.at_ := fun h => h1 (.inl h)
  have f2 : ¬ y.at_ < z.at_ := fun h => h2 (.inl h)
  rcases h3 with h3 | ⟨h3, h4⟩
  · omega
  · have g1 : x.at_ = y.at_ := by omega
    have g2 : y.at_ = z.at_ := by omega
    have m1 : ltM x.mac y.mac = false := by cases hh : ltM x.mac y.mac with | false => rfl | true => exact absurd (.inr ⟨g1, hh⟩) h1
    have m2 : ltM y.mac z.mac = false := by cases hh : ltM y.mac z.mac with | false => rfl | true => exact absurd (.inr ⟨g2, hh⟩) h2
    rcases e1 _ _ m1 with k1 | k1 <;> rcases e1 _ _ m2 with k2 | k2
    · have := ltM_trans h4 (ltM_trans k2 k1)
      rw [ltM_irrefl] at this; cases this
    · rw [← k2] at h4
      have := ltM_trans h4 k1
      rw [ltM_irrefl] at this; cases this
    · rw [k1] at h4
      have := ltM_trans h4 k2
      rw [ltM_irrefl] at this; cases this
    · rw [k1, k2] at h4
      rw [ltM_irrefl] at h4; cases h4
theorem cmpA_irrefl (x : En) : ¬ cmpA x x < 0 := by
  rw [cmpA_neg, ltM_irrefl]; simp
theorem cmpA_asymm (x y : En) (h : cmpA x y < 0) : ¬ cmpA y x < 0 := by
  rw [cmpA_neg] at *
  intro h2
  rcases h with h | ⟨h, h3⟩ <;> rcases h2 with h2 | ⟨h2, h4⟩
  · omega
  · omega
  · omega
  · rw [ltM_asymm h3] at h4; cases h4
end Go.Proofs.YticebdoiahadoaaDoor