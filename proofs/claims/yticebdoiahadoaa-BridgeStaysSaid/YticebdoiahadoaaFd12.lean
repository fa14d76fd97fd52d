/- fdb: slices.DeleteFunc at pointers. -/
import Derived.Test.YticebdoiahadoaaFd11
import Derived.Test.YticebdoiahadoaaOwnSet
import Derived.Lib.SliceRun
namespace Go.Proofs.Yticebdoiahadoaa
open Go.RowKit
set_option linter.unusedVariables false
set_option linter.unusedSimpArgs false

set_option maxRecDepth 100000 in
set_option maxHeartbeats 2000000 in
theorem fbDeleteFunc_any {w : World} {ao : Option Addr} {n cap : Nat} {xs : List Nat} (hn : n = xs.length) (hn6 : n ≤ 1000000) (ho : Own w 86 1 ao n cap (xs.map evP)) {fk : Nat} {caps : Array Value} {Pd : Nat → Bool} (hl : LooksP w (At ao) fk caps xs Pd)
    (eg : ∀ args w, (callFunc fk args).run Try.prog w = .ok (.enter fk args) w) :
    Calls Try.prog 96 #[.slice ao n cap, .func (.func fk) #[] caps] w fun e w' => ∃ n', e = .returned (.slice ao n' cap) ∧ n' = (xs.filter fun b => !(Pd b)).length ∧ Own w' 86 1 ao n' cap ((xs.filter fun b => !(Pd b)).map evP) ∧ Fr (At ao) w w' := by
  have HN := Lib.hid hn
  have HO := Lib.hid ho
  have HL := Lib.hid hl
  have hc1 := ho.le
  have hc2 := ho.capLe
  clear hn ho hl
  go_enter Try.func96, Try.ntmps96
  go_wp2_with fail
  refine (fbIndexFunc_any HN.out HO.out HL.out eg).mono ?_
  rintro e w1 ⟨⟨z, rfl, hz⟩, f1⟩
  have F1 := Lib.hid f1
  clear f1
  rcases hz with ⟨rfl, hno⟩ | ⟨i, b0, rfl, hb0, hpb, hno⟩
  · have hfl : (xs.filter fun b => !(Pd b)) = xs := by
      rw [List.filter_eq_self]; intro b hb; rw [hno b hb]; rfl
    have HFL := Lib.hid hfl
    clear hno hfl
    go_wp2_with fail
    go_ret
    exact ⟨n, rfl, by rw [HFL.out]; exact HN.out, by rw [HFL.out]; exact HO.out.no F1.out, F1.out.of_no⟩
  · have hin : i < n := by have := HN.out; have := (List.getElem?_eq_some_iff.1 hb0).1; omega
    cases ao with
    | none => exfalso; have := HO.out.nocap rfl; omega
    | some g =>
      obtain ⟨hg0, -⟩ := HO.out.row g rfl
      obtain ⟨gb, goff, gsp⟩ := g
      cases hg0
      have hfi : (xs.take (i + 1)).filter (fun b => !(Pd b)) = xs.take i := by
        rw [List.take_add_one, hb0]
        simp only [Option.toList_some, List.filter_append, List.filter_cons, hpb, Bool.not_true, Bool.false_eq_true, if_false, List.filter_nil, List.append_nil]
        rw [List.filter_eq_self]; intro b hb; rw [hno b hb]; rfl
      have HFI := Lib.hid hfi
      have hi9 : ((i : Int) == -1) = false := by simp
      clear hb0 hpb hno hfi
      go_wp2_with fail
      go_loopw [5, 6] (fun t5 t6 wr => ∃ (k j : Nat) (ys : List Nat), k < j ∧ j ≤ n ∧ t5 = .int .i64 k ∧ t6 = .int .i64 j ∧ ys.length = n ∧ ys.take k = (xs.take j).filter (fun b => !(Pd b)) ∧ ys.drop j = xs.drop j ∧ Own wr 86 1 (some ⟨gb, 0, none⟩) n cap (ys.map evP) ∧ Fr (At (some ⟨gb, 0, none⟩)) w wr)
        (fun _ t6 _ => n - (intOf t6).toNat)
      case atStart => exact ⟨i, i + 1, xs, by omega, by omega, rfl, by go_num, HN.out.symm, HFI.out.symm, rfl, HO.out.no F1.out, F1.out.of_no⟩
      case round =>
        obtain ⟨k, j, ys, hkj, hj, rfl, rfl, hyl, hyt, hyd, hown, hf⟩ := hrel
        have HYL := Lib.hid hyl
        have HYT := Lib.hid hyt
        have HYD := Lib.hid hyd
        have HW := Lib.hid hown
        have HF := Lib.hid hf
        clear hyl hyt hyd hown hf
        by_cases hlt : j < n
        · obtain ⟨b, hb⟩ : ∃ b, xs[j]? = some b := ⟨xs[j]'(by rw [← HN.out]; exact hlt), List.getElem?_eq_getElem _⟩
          have hyb : ys[j]? = some b := by
            have := congrArg (fun l => l[0]?) HYD.out
            simpa [List.getElem?_drop, hb] using this
          have bj : (j : Int) < (n : Int) := by omega
          have bk : (k : Int) < (n : Int) := by omega
          have bk0 : (0 : Int) ≤ (k : Int) := by omega
          have c0 : wr.cell? ⟨gb, j, none⟩ = some (evP b) := by
            have := HW.out.sl.cell _ rfl j (evP b) (by rw [flatP, hyb]; rfl)
            rwa [Addr.add_lit, Nat.zero_add] at this
          unfold evP at c0
          obtain ⟨r, hr⟩ : ∃ r, Pd b = r := ⟨_, rfl⟩
          have HR := Lib.hid hr
          have HC := Lib.hid (HL.out wr HF.out b (List.mem_of_getElem? hb))
          rw [hr] at HC
          have hsn : (xs.take (j + 1)).filter (fun b => !(Pd b)) = (xs.take j).filter (fun b => !(Pd b)) ++ (if r then [] else [b]) := by
            rw [List.take_add_one, hb]
            simp only [Option.toList_some, List.filter_append, List.filter_cons, hr, List.filter_nil]
            cases r <;> rfl
          have HSN := Lib.hid hsn
          have HB := Lib.hid hb
          clear hb hyb hr hsn
          go_wp2_with fail
          refine HC.out.mono ?_
          rintro e w3 ⟨rfl, f3⟩
          have F3 := Lib.hid (HF.out.then_no f3)
          have W3 := Lib.hid (HW.out.no f3)
          clear f3 c0 HC HW HF
          cases r
          · obtain ⟨u, hu⟩ : ∃ u, ys[k]? = some u := ⟨ys[k]'(by rw [HYL.out]; omega), List.getElem?_eq_getElem _⟩
            have ck : w3.cell? ⟨gb, k, none⟩ = some (evP u) := by
              have := W3.out.sl.cell _ rfl k (evP u) (by rw [flatP, hu]; rfl)
              rwa [Addr.add_lit, Nat.zero_add] at this
            have cf := W3.out.free1 k
            unfold evP at ck
            clear hu
            go_wp2_with fail
            go_roundw
            case rel =>
              refine ⟨k + 1, j + 1, ys.set k b, by omega, by omega, by go_num, by go_num, by rw [List.length_set]; exact HYL.out, ?_, ?_, ?_, F3.out.setCell (p := ⟨gb, k, none⟩) (.inl ⟨_, rfl, rfl⟩) _⟩
              · have h1 := HSN.out
                simp only [Bool.false_eq_true, if_false] at h1
                rw [h1, ← HYT.out, List.take_add_one, List.getElem?_set, if_pos rfl, if_pos (by rw [HYL.out]; omega), List.take_set_of_le (Nat.le_refl k)]
                rfl
              · rw [List.drop_set_of_lt (by omega), ← List.drop_drop, HYD.out, List.drop_drop]
              · have := W3.out.setCell (j := k) (evP b)
                rw [← List.map_set] at this
                exact this
            case measure => simp [intOf]; omega
          · go_wp2_with fail
            go_roundw
            case rel =>
              refine ⟨k, j + 1, ys, by omega, by omega, by go_num, by go_num, HYL.out, ?_, ?_, W3.out, F3.out⟩
              · have h1 := HSN.out
                simp only [if_true, List.append_nil] at h1
                rw [h1]; exact HYT.out
              · rw [← List.drop_drop, HYD.out, List.drop_drop]
            case measure => simp [intOf]; omega
        · have hjn : j = n := by omega
          have htk : xs.take j = xs := List.take_of_length_le (by have := HN.out; omega)
          rw [htk] at HYT
          clear htk hjn
          have bk : (k : Int) ≤ (n : Int) := by omega
          have bk0 : (0 : Int) ≤ (k : Int) := by omega
          have bk2 : (k : Int) ≤ (cap : Int) := by omega
          have hc : ∀ t, t < n → wr.cell? ⟨gb, t, none⟩ = some (evP (ys.getD t 0)) := by
            intro t ht
            have := HW.out.sl.cell _ rfl t (evP (ys.getD t 0)) (by rw [flatP, List.getD_eq_getElem?_getD, List.getElem?_eq_getElem (show t < ys.length by rw [HYL.out]; exact ht)]; rfl)
            rwa [Addr.add_lit, Nat.zero_add] at this
          have hcl : ∀ ty, (Builtin.clear_ #[145] ty #[.slice (some ⟨gb, k, none⟩) (n - k) (cap - k)]).run Try.prog wr = .ok (.tuple #[]) (wr.setCells gb k (List.replicate (n - k) (.pointer none))) :=
            fun ty => Lib.run_clear_slice wr _ _ ty _ Try.underlying145 zeroP rfl rfl gb k _ _ (by omega) (fun t ht => by rw [hc (k + t) (by omega)]; rfl) (fun t ht => HW.out.free1 (k + t))
          have hkl : k = (xs.filter fun b => !(Pd b)).length := by rw [← HYT.out, List.length_take, HYL.out]; omega
          have HKL := Lib.hid hkl
          have W5 := Lib.hid (Own.setCells (List.replicate (n - k) (.pointer none)) k wr (HW.out.take (k := k) (by omega)) (Nat.le_refl k))
          have F5 := Lib.hid (Fr.setCells (g := gb) (show At (some ⟨gb, 0, none⟩) gb from ⟨_, rfl, rfl⟩) (List.replicate (n - k) (.pointer none)) k wr HF.out)
          clear hc hkl
          go_wp2_with fail
          go_ret
          refine ⟨k, rfl, HKL.out, ?_, F5.out⟩
          have h1 := W5.out
          rw [← List.map_take, HYT.out] at h1
          exact h1
end Go.Proofs.Yticebdoiahadoaa
