/- slices of ints: Clone, IndexFunc, DeleteFunc. -/
import Derived.Test.YticebdoiahadoaaDoorFd2
import Derived.Test.YticebdoiahadoaaDoorOwnSet
namespace Go.Proofs.YticebdoiahadoaaDoor
open Go.RowKit
set_option linter.unusedVariables false
set_option linter.unusedSimpArgs false
def evI (z : Int) : Value := .int .i64 z
theorem zeroI (w : World) : (zeroValue 3).run Tryd.prog w = .ok (.int .i64 0) w := by kernel_rfl
theorem info_int : (Tryd.prog.info? 3).map (fun i => (i.zero, i.size, i.bytes)) = some (some (.int .i64 0), 1, 8) := by kernel_rfl
/-- A slice of ints that is read; one that is owned. -/
def Is_ (w : World) (ao : Option Addr) (n cap : Nat) (zs : List Int) : Prop := n = zs.length ∧ Sl w ao n cap (zs.map evI)
def OI (w : World) (ao : Option Addr) (n cap : Nat) (zs : List Int) : Prop := n = zs.length ∧ Own w 3 1 ao n cap (zs.map evI)
theorem OI.sl {w : World} {ao : Option Addr} {n cap : Nat} {zs : List Int} (h : OI w ao n cap zs) : Is_ w ao n cap zs := ⟨h.1, h.2.sl⟩
theorem Is_.fr {S : Nat → Prop} {w w' : World} {ao : Option Addr} {n cap : Nat} {zs : List Int} (h : Is_ w ao n cap zs) (hf : Fr S w w') (ho : Out S ao) : Is_ w' ao n cap zs := ⟨h.1, h.2.fr hf ho⟩
theorem Is_.no {w w' : World} {ao : Option Addr} {n cap : Nat} {zs : List Int} (h : Is_ w ao n cap zs) (hf : Fr No w w') : Is_ w' ao n cap zs := ⟨h.1, h.2.no hf⟩
theorem OI.fr {S : Nat → Prop} {w w' : World} {ao : Option Addr} {n cap : Nat} {zs : List Int} (h : OI w ao n cap zs) (hf : Fr S w w') (ho : Out S ao) : OI w' ao n cap zs := ⟨h.1, h.2.fr hf ho⟩
theorem OI.no {w w' : World} {ao : Option Addr} {n cap : Nat} {zs : List Int} (h : OI w ao n cap zs) (hf : Fr No w w') : OI w' ao n cap zs := ⟨h.1, h.2.no hf⟩
theorem OI.nil (w : World) : OI w none 0 0 [] := ⟨rfl, Own.nil _ _ _⟩
theorem evI_one (zs : List Int) : ∀ u ∈ zs.map evI, u.oneCell' = true := by
  intro u hu
  obtain ⟨_, _, rfl⟩ := List.mem_map.1 hu
  rfl
/-- append at []int. -/
theorem wpl_append_int {w : World} {ops : Array Oper} {rest : List Oper} {o : Oper} {a : Act} {Q : Exit → Act → World → Prop} (s x : Operand)
    (hgd : o.guard = none) (hop : o.op = .call { callee := .builtin .append, args := #[s, x], argTypes := #[35, 35] })
    {ao : Option Addr} {n cap : Nat} (hev : a.eval s = .slice ao n cap) {bo : Option Addr} {m c : Nat} (hex : a.eval x = .slice bo m c)
    {xs ys : List Int} (h1 : OI w ao n cap xs) (h2 : Is_ w bo m c ys) (hb : n + m ≤ 1000000)
    (hK : ∀ ao' cap' w', OI w' ao' (n + m) cap' (xs ++ ys) → Fr (At ao) w w' → (ao' = ao ∨ ∀ a, ao' = some a → w.heap.size ≤ a.block) → (ao ≠ none → ao' ≠ none) →
      wpList Tryd.prog ops Q rest (a.put o.dst (.slice ao' (n + m) cap')) w') :
    wpList Tryd.prog ops Q (o :: rest) a w := by
  obtain ⟨i0, hi, hz0, hz1, hz2⟩ := info_parts info_int
  refine wpList_append_U w hgd s x 35 hop 3 i0 (.int .i64 0) 1 8 Tryd.underlying35 hi hz0 hz1 hz2 rfl (by decide) ao n cap hev bo m c hex (xs.map evI) h1.2 (ys.map evI) h2.2 (by rw [List.length_map, h2.1]; omega) (evI_one ys)
    (by omega) (by omega) ?_
  intro ao' cap' w' r1 r2 r3 _ r5
  exact hK ao' cap' w' ⟨by rw [h1.1, h2.1]; simp, by rw [List.map_append]; exact r1⟩ r2 r3 r5
/-- slices.Clone at []int. -/
def ClonedI (w : World) (n : Nat) (zs : List Int) (e : Ending) (w' : World) : Prop :=
  ∃ ao cap, e = .returned (.slice ao n cap) ∧ OI w' ao n cap zs ∧ Fr No w w' ∧ (∀ a, ao = some a → w.heap.size ≤ a.block)
theorem cloneI_any {w : World} {ao : Option Addr} {n cap : Nat} {zs : List Int} (h : Is_ w ao n cap zs) (hn : n ≤ 1000000) : Calls Tryd.prog 24 #[.slice ao n cap] w (ClonedI w n zs) := by
  cases ao with
  | none =>
    have h1 := h.2.nocap rfl
    have h2 := h.2.le
    obtain rfl : cap = 0 := h1
    obtain rfl : n = 0 := by omega
    have hb : zs = [] := List.eq_nil_of_length_eq_zero h.1.symm
    subst hb
    clear h h2 hn
    have hnil : ∀ wx, (binOp .eql 35 (.slice none 0 0) (.slice none 0 0)).run Tryd.prog wx = .ok (.bool true) wx := fun wx => Lib.run_eql_slice_nil wx 35 3 none 0 0 0 0 Tryd.underlying35
    go_enter Tryd.func24, Tryd.ntmps24
    go_wp2
    go_ret
    exact ⟨none, 0, rfl, OI.nil _, Fr.refl _ _, fun a h => by cases h⟩
  | some a =>
    have hnil : ∀ wx, (binOp .eql 35 (.slice (some a) n cap) (.slice none 0 0)).run Tryd.prog wx = .ok (.bool false) wx := fun wx => Lib.run_eql_slice_nil wx 35 3 (some a) n cap 0 0 Tryd.underlying35
    have HH := Lib.hid h
    clear h
    have HN := Lib.hid hn
    clear hn
    go_enter Tryd.func24, Tryd.ntmps24
    go_wp2_with (at_builtin; refine wpl_append_int (.tmp 5) (.tmp 6) rfl rfl rfl rfl (xs := []) (n := 0) ⟨rfl, Own.made (w := w) (e := 3) (size := 1) #[] 0 rfl (by decide)⟩ (HH.out.no ((Fr.refl _ _).alloc _)) (by have := HN.out; omega) ?_; intro ao' cap' w1 ho hf hd hz)
    go_ret
    refine ⟨ao', cap', by simp, by simpa using ho, ((Fr.refl _ _).alloc _).then hf ?_, ?_⟩
    · rintro i hi ⟨b, hb, rfl⟩; cases hb; simp at hi
    · intro b hb
      rcases hd with hd | hd
      · rw [hd] at hb; cases hb; simp
      · have := hd b hb; simp at this; omega
/-- A predicate on ints, as a Go function value that only looks; it holds in every world that differs in the set S alone. -/
def LooksI (w : World) (S : Nat → Prop) (fk : Nat) (caps : Array Value) (xs : List Int) (Pd : Int → Bool) : Prop :=
  ∀ W, Fr S w W → ∀ b ∈ xs, Calls Tryd.prog fk (#[evI b] ++ caps) W fun r W' => r = .returned (.bool (Pd b)) ∧ Fr No W W'
theorem flatI (xs : List Int) (i : Nat) : (xs.map evI)[i]? = (xs[i]?).map evI := by rw [List.getElem?_map]
/-- What IndexFunc says. -/
def IdxI (xs : List Int) (Pd : Int → Bool) (z : Int) : Prop := (z = -1 ∧ ∀ b ∈ xs, Pd b = false) ∨ ∃ (i : Nat) (b : Int), z = (i : Int) ∧ xs[i]? = some b ∧ Pd b = true ∧ ∀ b' ∈ xs.take i, Pd b' = false

set_option maxRecDepth 100000 in
set_option maxHeartbeats 1000000 in
theorem indexFI_any {w : World} {ao : Option Addr} {n cap : Nat} {xs : List Int} (hn : n = xs.length) (ho : Own w 3 1 ao n cap (xs.map evI)) {fk : Nat} {caps : Array Value} {Pd : Int → Bool} {S : Nat → Prop} (hl : LooksI w S fk caps xs Pd)
    (eg : ∀ args w, (callFunc fk args).run Tryd.prog w = .ok (.enter fk args) w) :
    Calls Tryd.prog 37 #[.slice ao n cap, .func (.func fk) #[] caps] w fun e w' => (∃ z, e = .returned (.int .i64 z) ∧ IdxI xs Pd z) ∧ Fr No w w' := by
  have HN := Lib.hid hn
  have HO := Lib.hid ho
  have HL := Lib.hid hl
  have hc1 := ho.le
  have hc2 := ho.capLe
  clear hn ho hl
  go_enter Tryd.func37, Tryd.ntmps37
  go_wp2_with fail
  go_loopw [8] (fun t8 wr => ∃ j : Nat, j ≤ n ∧ t8 = .int .i64 j ∧ (∀ b ∈ xs.take j, Pd b = false) ∧ Fr No w wr) (fun t8 _ => n - (intOf t8).toNat)
  case atStart => exact ⟨0, by omega, rfl, by simp, Fr.refl _ _⟩
  case round =>
    obtain ⟨j, hj, rfl, hno, hf⟩ := hrel
    have HNO := Lib.hid hno
    have HF := Lib.hid hf
    clear hno hf
    by_cases hlt : j < n
    · obtain ⟨b, hb⟩ : ∃ b, xs[j]? = some b := ⟨xs[j]'(by rw [← HN.out]; exact hlt), List.getElem?_eq_getElem _⟩
      have HB := Lib.hid hb
      have bj : (j : Int) < (n : Int) := by omega
      cases ao with
      | none => exfalso; have := HO.out.nocap rfl; omega
      | some g =>
        obtain ⟨hg0, -⟩ := HO.out.row g rfl
        obtain ⟨gb, goff, gsp⟩ := g
        cases hg0
        have c0 : wr.cell? ⟨gb, j, none⟩ = some (evI b) := by
          have := (HO.out.no HF.out).sl.cell _ rfl j (evI b) (by rw [flatI, hb]; rfl)
          rwa [Addr.add_lit, Nat.zero_add] at this
        unfold evI at c0
        obtain ⟨r, hr⟩ : ∃ r, Pd b = r := ⟨_, rfl⟩
        have HR := Lib.hid hr
        have HC := Lib.hid (HL.out wr HF.out.of_no b (List.mem_of_getElem? hb))
        rw [hr] at HC
        have hsn : xs.take (j + 1) = xs.take j ++ [b] := by rw [List.take_add_one, hb]; rfl
        have HSN := Lib.hid hsn
        clear hb hr hsn
        go_wp2_with fail
        refine HC.out.mono ?_
        rintro e w3 ⟨rfl, f3⟩
        have F3 := Lib.hid (HF.out.then_no f3)
        clear f3 c0 HC
        cases r
        · go_wp2_with fail
          go_roundw
          case rel => exact ⟨j + 1, by omega, by go_num, (by
            intro b' hb'
            rw [HSN.out] at hb'
            rcases List.mem_append.1 hb' with h | h
            · exact HNO.out b' h
            · rw [List.mem_singleton] at h; rw [h]; exact HR.out), F3.out⟩
          case measure => simp [intOf]; omega
        · go_wp2_with fail
          go_ret
          exact ⟨⟨j, rfl, .inr ⟨j, b, rfl, HB.out, HR.out, HNO.out⟩⟩, F3.out⟩
    · have htk : xs.take j = xs := List.take_of_length_le (by have := HN.out; omega)
      rw [htk] at HNO
      clear htk
      go_wp2_with fail
      go_ret
      exact ⟨⟨-1, rfl, .inl ⟨rfl, HNO.out⟩⟩, HF.out⟩


set_option maxRecDepth 100000 in
set_option maxHeartbeats 2000000 in
theorem deleteFI_any {w : World} {ao : Option Addr} {n cap : Nat} {xs : List Int} (hn : n = xs.length) (hn6 : n ≤ 1000000) (ho : Own w 3 1 ao n cap (xs.map evI)) {fk : Nat} {caps : Array Value} {Pd : Int → Bool} (hl : LooksI w (At ao) fk caps xs Pd)
    (eg : ∀ args w, (callFunc fk args).run Tryd.prog w = .ok (.enter fk args) w) :
    Calls Tryd.prog 28 #[.slice ao n cap, .func (.func fk) #[] caps] w fun e w' => ∃ n', e = .returned (.slice ao n' cap) ∧ n' = (xs.filter fun b => !(Pd b)).length ∧ Own w' 3 1 ao n' cap ((xs.filter fun b => !(Pd b)).map evI) ∧ Fr (At ao) w w' := by
  have HN := Lib.hid hn
  have HO := Lib.hid ho
  have HL := Lib.hid hl
  have hc1 := ho.le
  have hc2 := ho.capLe
  clear hn ho hl
  go_enter Tryd.func28, Tryd.ntmps28
  go_wp2_with fail
  refine (indexFI_any HN.out HO.out HL.out eg).mono ?_
  rintro e w1 ⟨⟨z, rfl, hz⟩, f1⟩
  have F1 := Lib.hid f1
  clear f1
  rcases hz with ⟨rfl, hno⟩ | ⟨i, b0, rfl, hb0, hpb, hno⟩
  · have hfl : (xs.filter fun b => !(Pd b)) = xs := by
      rw [List.filter_eq_self]; intro b hb; rw [hno b hb]; rfl
    have HFL := Lib.hid hfl
    clear hno hfl
    go_wp2_with fail
    go_ret
    exact ⟨n, rfl, by rw [HFL.out]; exact HN.out, by rw [HFL.out]; exact HO.out.no F1.out, F1.out.of_no⟩
  · have hin : i < n := by have := HN.out; have := (List.getElem?_eq_some_iff.1 hb0).1; omega
    cases ao with
    | none => exfalso; have := HO.out.nocap rfl; omega
    | some g =>
      obtain ⟨hg0, -⟩ := HO.out.row g rfl
      obtain ⟨gb, goff, gsp⟩ := g
      cases hg0
      have hfi : (xs.take (i + 1)).filter (fun b => !(Pd b)) = xs.take i := by
        rw [List.take_add_one, hb0]
        simp only [Option.toList_some, List.filter_append, List.filter_cons, hpb, Bool.not_true, Bool.false_eq_true, if_false, List.filter_nil, List.append_nil]
        rw [List.filter_eq_self]; intro b hb; rw [hno b hb]; rfl
      have HFI := Lib.hid hfi
      have hi9 : ((i : Int) == -1) = false := by simp
      clear hb0 hpb hno hfi
      go_wp2_with fail
      go_loopw [5, 6] (fun t5 t6 wr => ∃ (k j : Nat) (ys : List Int), k < j ∧ j ≤ n ∧ t5 = .int .i64 k ∧ t6 = .int .i64 j ∧ ys.length = n ∧ ys.take k = (xs.take j).filter (fun b => !(Pd b)) ∧ ys.drop j = xs.drop j ∧ Own wr 3 1 (some ⟨gb, 0, none⟩) n cap (ys.map evI) ∧ Fr (At (some ⟨gb, 0, none⟩)) w wr)
        (fun _ t6 _ => n - (intOf t6).toNat)
      case atStart => exact ⟨i, i + 1, xs, by omega, by omega, rfl, by go_num, HN.out.symm, HFI.out.symm, rfl, HO.out.no F1.out, F1.out.of_no⟩
      case round =>
        obtain ⟨k, j, ys, hkj, hj, rfl, rfl, hyl, hyt, hyd, hown, hf⟩ := hrel
        have HYL := Lib.hid hyl
        have HYT := Lib.hid hyt
        have HYD := Lib.hid hyd
        have HW := Lib.hid hown
        have HF := Lib.hid hf
        clear hyl hyt hyd hown hf
        by_cases hlt : j < n
        · obtain ⟨b, hb⟩ : ∃ b, xs[j]? = some b := ⟨xs[j]'(by rw [← HN.out]; exact hlt), List.getElem?_eq_getElem _⟩
          have hyb : ys[j]? = some b := by
            have := congrArg (fun l => l[0]?) HYD.out
            simpa [List.getElem?_drop, hb] using this
          have bj : (j : Int) < (n : Int) := by omega
          have bk : (k : Int) < (n : Int) := by omega
          have bk0 : (0 : Int) ≤ (k : Int) := by omega
          have c0 : wr.cell? ⟨gb, j, none⟩ = some (evI b) := by
            have := HW.out.sl.cell _ rfl j (evI b) (by rw [flatI, hyb]; rfl)
            rwa [Addr.add_lit, Nat.zero_add] at this
          unfold evI at c0
          obtain ⟨r, hr⟩ : ∃ r, Pd b = r := ⟨_, rfl⟩
          have HR := Lib.hid hr
          have HC := Lib.hid (HL.out wr HF.out b (List.mem_of_getElem? hb))
          rw [hr] at HC
          have hsn : (xs.take (j + 1)).filter (fun b => !(Pd b)) = (xs.take j).filter (fun b => !(Pd b)) ++ (if r then [] else [b]) := by
            rw [List.take_add_one, hb]
            simp only [Option.toList_some, List.filter_append, List.filter_cons, hr, List.filter_nil]
            cases r <;> rfl
          have HSN := Lib.hid hsn
          have HB := Lib.hid hb
          clear hb hyb hr hsn
          go_wp2_with fail
          refine HC.out.mono ?_
          rintro e w3 ⟨rfl, f3⟩
          have F3 := Lib.hid (HF.out.then_no f3)
          have W3 := Lib.hid (HW.out.no f3)
          clear f3 c0 HC HW HF
          cases r
          · obtain ⟨u, hu⟩ : ∃ u, ys[k]? = some u := ⟨ys[k]'(by rw [HYL.out]; omega), List.getElem?_eq_getElem _⟩
            have ck : w3.cell? ⟨gb, k, none⟩ = some (evI u) := by
              have := W3.out.sl.cell _ rfl k (evI u) (by rw [flatI, hu]; rfl)
              rwa [Addr.add_lit, Nat.zero_add] at this
            have cf := W3.out.free1 k
            unfold evI at ck
            clear hu
            go_wp2_with fail
            go_roundw
            case rel =>
              refine ⟨k + 1, j + 1, ys.set k b, by omega, by omega, by go_num, by go_num, by rw [List.length_set]; exact HYL.out, ?_, ?_, ?_, F3.out.setCell (p := ⟨gb, k, none⟩) (.inl ⟨_, rfl, rfl⟩) _⟩
              · have h1 := HSN.out
                simp only [Bool.false_eq_true, if_false] at h1
                rw [h1, ← HYT.out, List.take_add_one, List.getElem?_set, if_pos rfl, if_pos (by rw [HYL.out]; omega), List.take_set_of_le (Nat.le_refl k)]
                rfl
              · rw [List.drop_set_of_lt (by omega), ← List.drop_drop, HYD.out, List.drop_drop]
              · have := W3.out.setCell (j := k) (evI b)
                rw [← List.map_set] at this
                exact this
            case measure => simp [intOf]; omega
          · go_wp2_with fail
            go_roundw
            case rel =>
              refine ⟨k, j + 1, ys, by omega, by omega, by go_num, by go_num, HYL.out, ?_, ?_, W3.out, F3.out⟩
              · have h1 := HSN.out
                simp only [if_true, List.append_nil] at h1
                rw [h1]; exact HYT.out
              · rw [← List.drop_drop, HYD.out, List.drop_drop]
            case measure => simp [intOf]; omega
        · have hjn : j = n := by omega
          have htk : xs.take j = xs := List.take_of_length_le (by have := HN.out; omega)
          rw [htk] at HYT
          clear htk hjn
          have bk : (k : Int) ≤ (n : Int) := by omega
          have bk0 : (0 : Int) ≤ (k : Int) := by omega
          have bk2 : (k : Int) ≤ (cap : Int) := by omega
          have hc : ∀ t, t < n → wr.cell? ⟨gb, t, none⟩ = some (evI (ys.getD t 0)) := by
            intro t ht
            have := HW.out.sl.cell _ rfl t (evI (ys.getD t 0)) (by rw [flatI, List.getD_eq_getElem?_getD, List.getElem?_eq_getElem (show t < ys.length by rw [HYL.out]; exact ht)]; rfl)
            rwa [Addr.add_lit, Nat.zero_add] at this
          have hcl : ∀ ty, (Builtin.clear_ #[35] ty #[.slice (some ⟨gb, k, none⟩) (n - k) (cap - k)]).run Tryd.prog wr = .ok (.tuple #[]) (wr.setCells gb k (List.replicate (n - k) (.int .i64 0))) :=
            fun ty => Lib.run_clear_slice wr _ _ ty _ Tryd.underlying35 zeroI rfl rfl gb k _ _ (by omega) (fun t ht => by rw [hc (k + t) (by omega)]; rfl) (fun t ht => HW.out.free1 (k + t))
          have hkl : k = (xs.filter fun b => !(Pd b)).length := by rw [← HYT.out, List.length_take, HYL.out]; omega
          have HKL := Lib.hid hkl
          have W5 := Lib.hid (Own.setCells (List.replicate (n - k) (.int .i64 0)) k wr (HW.out.take (k := k) (by omega)) (Nat.le_refl k))
          have F5 := Lib.hid (Fr.setCells (g := gb) (show At (some ⟨gb, 0, none⟩) gb from ⟨_, rfl, rfl⟩) (List.replicate (n - k) (.int .i64 0)) k wr HF.out)
          clear hc hkl
          go_wp2_with fail
          go_ret
          refine ⟨k, rfl, HKL.out, ?_, F5.out⟩
          have h1 := W5.out
          rw [← List.map_take, HYT.out] at h1
          exact h1
end Go.Proofs.YticebdoiahadoaaDoor