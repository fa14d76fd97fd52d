/- tunnel: rows of uint32; ends; which tunnel is right. -/
import Derived.Test.YthoppkklooomgaaTnA
import Derived.Test.YthoppkklooomgaaOptRow
import Derived.Laws.StructEq
import Derived.Deep.QuietTactic
import Derived.BigQuiet
namespace Go.Proofs.Ythoppkklooomgaa
open Go.RowKit
set_option linter.unusedVariables false
set_option linter.unusedSimpArgs false
/-- Numbers as cells. -/
def u32V (k : Nat) : Value := .int .u32 (k : Int)
def u32L (ks : List Nat) : List Value := ks.map u32V
theorem u32L_one (ks : List Nat) : ∀ u ∈ u32L ks, u.oneCell' = true := by
  intro u hu
  obtain ⟨_, _, rfl⟩ := List.mem_map.1 hu
  rfl
theorem u32L_length (ks : List Nat) : (u32L ks).length = ks.length := by simp [u32L]
/-- A slice of numbers that is read; one that is owned. -/
def Us (w : World) (ao : Option Addr) (n cap : Nat) (ks : List Nat) : Prop := n = ks.length ∧ Sl w ao n cap (u32L ks)
def OU (w : World) (ao : Option Addr) (n cap : Nat) (ks : List Nat) : Prop := n = ks.length ∧ Own w 22 1 ao n cap (u32L ks)
theorem OU.us {w : World} {ao : Option Addr} {n cap : Nat} {ks : List Nat} (h : OU w ao n cap ks) : Us w ao n cap ks := ⟨h.1, h.2.sl⟩
theorem Us.no {w w' : World} {ao : Option Addr} {n cap : Nat} {ks : List Nat} (h : Us w ao n cap ks) (hf : Fr No w w') : Us w' ao n cap ks := ⟨h.1, h.2.no hf⟩
theorem Us.fr {S : Nat → Prop} {w w' : World} {ao : Option Addr} {n cap : Nat} {ks : List Nat} (h : Us w ao n cap ks) (hf : Fr S w w') (ho : Out S ao) : Us w' ao n cap ks := ⟨h.1, h.2.fr hf ho⟩
theorem OU.no {w w' : World} {ao : Option Addr} {n cap : Nat} {ks : List Nat} (h : OU w ao n cap ks) (hf : Fr No w w') : OU w' ao n cap ks := ⟨h.1, h.2.no hf⟩
theorem OU.fr {S : Nat → Prop} {w w' : World} {ao : Option Addr} {n cap : Nat} {ks : List Nat} (h : OU w ao n cap ks) (hf : Fr S w w') (ho : Out S ao) : OU w' ao n cap ks := ⟨h.1, h.2.fr hf ho⟩
theorem OU.nil (w : World) : OU w none 0 0 [] := ⟨rfl, Own.nil _ _ _⟩
theorem info_u32 : (Try.prog.info? 22).map (fun i => (i.zero, i.size, i.bytes)) = some (some (.int .u32 0), 1, 4) := by kernel_rfl
/-- The most numbers that a row may hold. -/
def mostU : Nat := 35184372088832
/-- append at []uint32. -/
theorem wpl_append_u {w : World} {ops : Array Oper} {rest : List Oper} {o : Oper} {a : Act} {Q : Exit → Act → World → Prop} (s x : Operand)
    (hgd : o.guard = none) (hop : o.op = .call { callee := .builtin .append, args := #[s, x], argTypes := #[25, 25] })
    {ao : Option Addr} {n cap : Nat} (hev : a.eval s = .slice ao n cap) {bo : Option Addr} {m c : Nat} (hex : a.eval x = .slice bo m c)
    {xs ys : List Nat} (h1 : OU w ao n cap xs) (h2 : Us w bo m c ys) (hb : n + m ≤ mostU)
    (hK : ∀ ao' cap' w', OU w' ao' (n + m) cap' (xs ++ ys) → Fr (At ao) w w' → (ao' = ao ∨ ∀ a, ao' = some a → w.heap.size ≤ a.block) → (ao ≠ none → ao' ≠ none) →
      wpList Try.prog ops Q rest (a.put o.dst (.slice ao' (n + m) cap')) w') :
    wpList Try.prog ops Q (o :: rest) a w := by
  obtain ⟨i0, hi, hz0, hz1, hz2⟩ := info_parts info_u32
  unfold mostU at hb
  refine wpList_append_U w hgd s x 25 hop 22 i0 (.int .u32 0) 1 4 Try.underlying25 hi hz0 hz1 hz2 rfl (by decide) ao n cap hev bo m c hex (u32L xs) h1.2 (u32L ys) h2.2 (by rw [u32L_length, h2.1]; omega) (u32L_one ys)
    (by omega) (by omega) ?_
  intro ao' cap' w' r1 r2 r3 _ r5
  exact hK ao' cap' w' ⟨by rw [h1.1, h2.1]; simp, by rw [u32L, List.map_append]; exact r1⟩ r2 r3 r5
/-- slices.Clone at []uint32. -/
def ClonedU (w : World) (n : Nat) (ks : List Nat) (e : Ending) (w' : World) : Prop :=
  ∃ ao cap, e = .returned (.slice ao n cap) ∧ OU w' ao n cap ks ∧ Fr No w w' ∧ (∀ a, ao = some a → w.heap.size ≤ a.block)
theorem cloneU_any {w : World} {ao : Option Addr} {n cap : Nat} {ks : List Nat} (h : Us w ao n cap ks) (hn : n ≤ mostU) : Calls Try.prog 40 #[.slice ao n cap] w (ClonedU w n ks) := by
  cases ao with
  | none =>
    have h1 := h.2.nocap rfl
    have h2 := h.2.le
    obtain rfl : cap = 0 := h1
    obtain rfl : n = 0 := by omega
    have hb : ks = [] := List.eq_nil_of_length_eq_zero h.1.symm
    subst hb
    clear h h2 hn
    have hnil : ∀ wx, (binOp .eql 25 (.slice none 0 0) (.slice none 0 0)).run Try.prog wx = .ok (.bool true) wx := fun wx => Lib.run_eql_slice_nil wx 25 22 none 0 0 0 0 Try.underlying25
    go_enter Try.func40, Try.ntmps40
    go_wp2
    go_ret
    exact ⟨none, 0, rfl, OU.nil _, Fr.refl _ _, fun a h => by cases h⟩
  | some a =>
    have hnil : ∀ wx, (binOp .eql 25 (.slice (some a) n cap) (.slice none 0 0)).run Try.prog wx = .ok (.bool false) wx := fun wx => Lib.run_eql_slice_nil wx 25 22 (some a) n cap 0 0 Try.underlying25
    have HH := Lib.hid h
    clear h
    have HN := Lib.hid hn
    clear hn
    go_enter Try.func40, Try.ntmps40
    go_wp2_with (at_builtin; refine wpl_append_u (.tmp 5) (.tmp 6) rfl rfl rfl rfl (xs := []) (n := 0) ⟨rfl, Own.made (w := w) (e := 22) (size := 1) #[] 0 rfl (by decide)⟩ (HH.out.no ((Fr.refl _ _).alloc _)) (by have := HN.out; omega) ?_; intro ao' cap' w1 ho hf hd hz)
    go_ret
    refine ⟨ao', cap', by simp, by simpa using ho, ((Fr.refl _ _).alloc _).then hf ?_, ?_⟩
    · rintro i hi ⟨b, hb, rfl⟩; cases hb; simp at hi
    · intro b hb
      rcases hd with hd | hd
      · rw [hd] at hb; cases hb; simp
      · have := hd b hb; simp at this; omega

/-- slices.Index, slices.Contains at []uint32. -/
def IdxUOk (w : World) (b : Bool) (e : Ending) (w' : World) : Prop := ∃ r : Int, e = .returned (.int .i64 r) ∧ decide (0 ≤ r) = b ∧ w = w'
theorem Us.at {w : World} {ao : Option Addr} {n cap : Nat} {ks : List Nat} (h : Us w ao n cap ks) {j : Nat} (hj : j < n) : ∃ a k, ao = some a ∧ ks[j]? = some k ∧ w.cell? (a.add j) = some (.int .u32 (k : Int)) := by
  have hl := h.1
  cases ao with
  | none => have := h.2.nocap rfl; have := h.2.le; omega
  | some a =>
    have hk : ks[j]? = some (ks[j]'(by omega)) := List.getElem?_eq_getElem _
    exact ⟨a, _, rfl, hk, h.2.cell a rfl j _ (by rw [u32L, List.getElem?_map, hk]; rfl)⟩
set_option maxRecDepth 100000 in
theorem indexU_any {w : World} {ao : Option Addr} {n cap : Nat} {ks : List Nat} (h : Us w ao n cap ks) (x : Nat) :
    Calls Try.prog 63 #[.slice ao n cap, .int .u32 (x : Int)] w (IdxUOk w (hasU ks x)) := by
  have H := Lib.hid h
  have hN := Lib.hid h.1
  have hc1 := h.2.le
  have hc2 := h.2.capLe
  clear h
  go_enter Try.func63, Try.ntmps63
  go_wp2_with fail
  go_loop [8] (fun t => ∃ j : Nat, j ≤ n ∧ t = .int .i64 j ∧ ∀ k ∈ ks.take j, k ≠ x) (fun t => n - (intOf t).toNat)
  case atStart => exact ⟨0, by omega, rfl, by simp⟩
  case round =>
    obtain ⟨j, hj, rfl, hno⟩ := hrel
    have NO := Lib.hid hno
    clear hno
    by_cases hlt : j < n
    · obtain ⟨a, k, rfl, hk, hc⟩ := H.out.at hlt
      have HK := Lib.hid hk
      have hsp : a.spot = none := by
        have h0 : 0 < n := by omega
        obtain ⟨a', k', ha, -, h'⟩ := H.out.at h0
        cases ha
        exact World.cell?_spot (w := w) (v := .int .u32 (k' : Int)) (by rwa [show a.add 0 = a from rfl] at h')
      rw [add_of_spot hsp] at hc
      obtain ⟨ab, aoff, asp⟩ := a
      cases hsp
      have bj : (j : Int) < (n : Int) := by omega
      have bj0 : (0 : Int) ≤ (j : Int) := by omega
      have hsn : ks.take (j + 1) = ks.take j ++ [k] := by rw [List.take_add_one, hk]; rfl
      have HSN := Lib.hid hsn
      clear hk hsn
      by_cases hx : k = x
      · subst hx
        have hin : hasU ks k = true := by unfold hasU; rw [List.contains_iff_mem]; exact List.mem_of_getElem? HK.out
        have HIN := Lib.hid hin
        clear hin
        go_wp2_with fail
        go_ret
        exact ⟨j, rfl, by rw [HIN.out]; simp, rfl⟩
      · have hb : ((x : Int) == (k : Int)) = false := by simp; omega
        have HX := Lib.hid hx
        clear hx
        go_wp2_with fail
        go_round
        case rel =>
          refine ⟨j + 1, by omega, by go_num, fun k' hk' => ?_⟩
          rw [HSN.out] at hk'
          rcases List.mem_append.1 hk' with h | h
          · exact NO.out k' h
          · rw [List.mem_singleton] at h; rw [h]; exact HX.out
        case measure => simp [intOf]; omega
    · have htk : ks.take j = ks := List.take_of_length_le (by have := hN.out; omega)
      rw [htk] at NO
      have hin : hasU ks x = false := by
        unfold hasU; rw [Bool.eq_false_iff, ne_eq, List.contains_iff_mem]
        intro hm; exact NO.out x hm rfl
      have HIN := Lib.hid hin
      clear hin htk
      go_wp2_with fail
      go_ret
      exact ⟨-1, rfl, by rw [HIN.out]; rfl, rfl⟩
theorem containsU_any {w : World} {ao : Option Addr} {n cap : Nat} {ks : List Nat} (h : Us w ao n cap ks) (x : Nat) :
    Calls Try.prog 48 #[.slice ao n cap, .int .u32 (x : Int)] w fun e w' => e = .returned (.bool (hasU ks x)) ∧ w = w' := by
  have H := Lib.hid h
  clear h
  go_enter Try.func48, Try.ntmps48
  go_wp2_with (go_at_call 63; refine (indexU_any H.out x).mono ?_; rintro e w1 ⟨r, rfl, hr, rfl⟩)
  go_ret
  exact ⟨by rw [← hr]; rfl, rfl⟩

theorem tnEnds_any (k l p i s : Int) (oo ko : Option Addr) (on oc kn kc : Nat) (su sq : Bool) (w : World) :
    Calls Try.prog 21 #[.agg #[.int .i64 k, .int .u32 l, .int .u32 p, .int .u32 i, .int .i64 s, .slice oo on oc, .slice ko kn kc, .bool su, .bool sq]] w
      fun e w' => e = .returned (.agg #[.int .i64 k, .int .u32 l, .int .u32 p]) ∧ Fr No w w' := by
  go_enter Try.func21, Try.ntmps21
  go_wp2
  exact bodyPost_ret (v := .agg #[.int .i64 k, .int .u32 l, .int .u32 p]) (by simp [results, Try.results21, go_sem]) rfl ⟨rfl, ((Fr.refl No w).alloc _).alloc _⟩

/-- Are these the same ends? -/
def eqE (a b c a' b' c' : Int) : Bool := decide (a = a' ∧ b = b' ∧ c = c')
theorem eqEnds (a b c a' b' c' : Int) (w : World) : (binOp .eql 72 (.agg #[.int .i64 a, .int .u32 b, .int .u32 c]) (.agg #[.int .i64 a', .int .u32 b', .int .u32 c'])).run Try.prog w = .ok (.bool (eqE a b c a' b' c')) w := by
  have u3 := Try.underlying3
  have u4 := Try.underlying23
  have a3 := Try.isAgg3
  have a4 := Try.isAgg23
  have z3 := Try.sizeOf3
  have z4 := Try.sizeOf23
  have hS : Try.prog.underlying 72 = some (.struct (Try.prog.fieldsOf 72)) := by kernel_rfl
  have hp : Try.prog.stoodInHeld 72 = false := by kernel_rfl
  rw [run_eql_struct, show (10000 : Nat) = 9999 + 1 from rfl, run_equalIn_agg w 9999 72 _ _ hS hp]
  simp only [Program.fieldsOf, Try.underlying72]
  go_simp
  unfold eqE
  by_cases h1 : a = a' <;> by_cases h2 : b = b' <;> by_cases h3 : c = c' <;> simp [h1, h2, h3]
theorem neqEnds (a b c a' b' c' : Int) (w : World) : (binOp .neq 72 (.agg #[.int .i64 a, .int .u32 b, .int .u32 c]) (.agg #[.int .i64 a', .int .u32 b', .int .u32 c'])).run Try.prog w = .ok (.bool (!eqE a b c a' b' c')) w := by
  have u3 := Try.underlying3
  have u4 := Try.underlying23
  have a3 := Try.isAgg3
  have a4 := Try.isAgg23
  have z3 := Try.sizeOf3
  have z4 := Try.sizeOf23
  have hS : Try.prog.underlying 72 = some (.struct (Try.prog.fieldsOf 72)) := by kernel_rfl
  have hp : Try.prog.stoodInHeld 72 = false := by kernel_rfl
  rw [run_neq_struct, show (10000 : Nat) = 9999 + 1 from rfl, run_equalIn_agg w 9999 72 _ _ hS hp]
  simp only [Program.fieldsOf, Try.underlying72]
  go_simp
  unfold eqE
  by_cases h1 : a = a' <;> by_cases h2 : b = b' <;> by_cases h3 : c = c' <;> simp [h1, h2, h3]
end Go.Proofs.Ythoppkklooomgaa