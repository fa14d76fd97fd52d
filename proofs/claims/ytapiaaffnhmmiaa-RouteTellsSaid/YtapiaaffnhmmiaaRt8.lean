/- route: the statements' own 'does'; steps. -/
import Derived.Test.YtapiaaffnhmmiaaRtPlain
import Derived.Test.YtapiaaffnhmmiaaRt7
import Derived.Test.YtapiaaffnhmmiaaLawRouteCuts
import Derived.Test.YtapiaaffnhmmiaaLiftLeaf
import Derived.Laws.StructEq
namespace Go.Proofs.Ytapiaaffnhmmiaa
open Go.RowKit
set_option linter.unusedVariables false
set_option linter.unusedSimpArgs false

theorem eqRt (x y : Rt) (w : World) : (binOp .eql 33 (evR x) (evR y)).run Try.prog w = .ok (.bool (decide (x = y))) w := by
  have u3 := Try.underlying3
  have u4 := Try.underlying31
  have a3 := Try.isAgg3
  have a4 := Try.isAgg31
  have z3 := Try.sizeOf3
  have z4 := Try.sizeOf31
  have hS : Try.prog.underlying 33 = some (.struct (Try.prog.fieldsOf 33)) := by kernel_rfl
  have hp : Try.prog.stoodInHeld 33 = false := by kernel_rfl
  obtain ⟨a, b, c, d⟩ := x
  obtain ⟨a', b', c', d'⟩ := y
  simp only [evR]
  rw [run_eql_struct, show (10000 : Nat) = 9999 + 1 from rfl, run_equalIn_agg w 9999 33 _ _ hS hp]
  simp only [Program.fieldsOf, Try.underlying33]
  go_simp
  by_cases h1 : a = a' <;> by_cases h2 : b = b' <;> by_cases h3 : c = c' <;> by_cases h4 : d = d' <;> simp [h1, h2, h3, h4]
theorem neqRt (x y : Rt) (w : World) : (binOp .neq 33 (evR x) (evR y)).run Try.prog w = .ok (.bool (!decide (x = y))) w := by
  have u3 := Try.underlying3
  have u4 := Try.underlying31
  have a3 := Try.isAgg3
  have a4 := Try.isAgg31
  have z3 := Try.sizeOf3
  have z4 := Try.sizeOf31
  have hS : Try.prog.underlying 33 = some (.struct (Try.prog.fieldsOf 33)) := by kernel_rfl
  have hp : Try.prog.stoodInHeld 33 = false := by kernel_rfl
  obtain ⟨a, b, c, d⟩ := x
  obtain ⟨a', b', c', d'⟩ := y
  simp only [evR]
  rw [run_neq_struct, show (10000 : Nat) = 9999 + 1 from rfl, run_equalIn_agg w 9999 33 _ _ hS hp]
  simp only [Program.fieldsOf, Try.underlying33]
  go_simp
  by_cases h1 : a = a' <;> by_cases h2 : b = b' <;> by_cases h3 : c = c' <;> by_cases h4 : d = d' <;> simp [h1, h2, h3, h4]

/-- A step. -/
structure St8 where
  kind : Int
  r : Rt
  ip : Int
deriving DecidableEq, Inhabited
def St8.ok (x : St8) : Prop := (-9223372036854775808 ≤ x.kind ∧ x.kind ≤ 9223372036854775807) ∧ x.r.ok ∧ (0 ≤ x.ip ∧ x.ip < 4294967296)
def encS8 (x : St8) : List Value := [.int .i64 x.kind, .int .u32 x.r.dst, .int .i64 x.r.bits, .int .u32 x.r.via, .int .i64 x.r.out, .int .u32 x.ip]
/-- The route of a step, as it is added. -/
def cutR (r : Rt) : Rt := { r with dst := cutN r.dst r.bits }
def delCode (l : RL) (k : Int × Int) : Int := if mget l k = none then 6 else 0
def stepCode (l : RL) (x : St8) : Int :=
  if x.kind = 0 ∨ x.kind = 1 then addCode l x.r else if x.kind = 2 then addCode l (cutR x.r) else if x.kind = 3 then delCode l (x.r.dst, x.r.bits) else 0
def stepTo (l : RL) (x : St8) : RL :=
  if x.kind = 0 ∨ x.kind = 1 then addTo l x.r else if x.kind = 2 then addTo l (cutR x.r) else if x.kind = 3 then mdel l (x.r.dst, x.r.bits) else l
theorem cutR_ok {r : Rt} (h : r.ok) : (cutR r).ok := by
  have := cutN_bd r.dst r.bits h.1.1 h.1.2
  exact ⟨this, h.2⟩
theorem Good.step {l : RL} (g : Good l) {x : St8} (h : x.ok) : Good (stepTo l x) := by
  unfold stepTo
  split
  · exact g.add _ h.2.1
  · split
    · exact g.add _ (cutR_ok h.2.1)
    · split
      · exact g.del _
      · exact g
theorem delOut_of (l : RL) (k : Int × Int) : DelOut l k (delCode l k) (mdel l k) := by
  unfold delCode
  by_cases h : mget l k = none
  · rw [if_pos h]
    refine .inl ⟨h, rfl, ?_⟩
    exact List.filter_eq_self.2 (fun p hp => by simpa using mget_none.1 h p hp)
  · rw [if_neg h]
    exact .inr ⟨h, rfl, rfl⟩

set_option maxRecDepth 100000 in
set_option maxHeartbeats 1000000 in
theorem l8does_any {w : World} {tb mb : Nat} {l : RL} (h : RTb w tb mb l) (hl : l.length ≤ 64) (x : St8) (hx : x.ok) {c : Int} {l' : RL} (hc : stepCode l x = c) (hl' : stepTo l x = l') :
    Calls Try.prog 14 #[.pointer (some ⟨tb, 0, none⟩), .agg #[.int .i64 x.kind, .int .u32 x.r.dst, .int .i64 x.r.bits, .int .u32 x.r.via, .int .i64 x.r.out, .int .u32 x.ip]] w (AddP w tb mb c l') := by
  obtain ⟨kd, ⟨d, b, v, o⟩, ip⟩ := x
  obtain ⟨⟨hk0, hk1⟩, hr, -⟩ := hx
  have ht := lt_of_heap h.box
  have hm := h.mp.lt
  have H := Lib.hid h
  unfold stepCode at hc
  unfold stepTo at hl'
  simp only at hc hl' hk0 hk1 hr ⊢
  have H1 := Lib.hid (h.no ((Fr.refl No w).alloc (.cells #[.int .i64 kd, .int .u32 d, .int .i64 b, .int .u32 v, .int .i64 o, .int .u32 ip] 35)))
  have HR := Lib.hid hr
  have hF : Fr (Is mb) w (w.alloc (.cells #[.int .i64 kd, .int .u32 d, .int .i64 b, .int .u32 v, .int .i64 o, .int .u32 ip] 35)) := (Fr.refl _ _).alloc _
  have HF := Lib.hid hF
  have keep : ∀ o e w', AddP (w.alloc o) tb mb c l' e w' → AddP w tb mb c l' e w' := fun o e w' ⟨h1, h2, h3⟩ => ⟨h1, h2, ((Fr.refl _ _).alloc o).trans h3⟩
  have KP := Lib.hid keep
  clear h hr hF keep
  by_cases h0 : kd = 0 ∨ kd = 1
  · rw [if_pos h0] at hc hl'
    have HC := Lib.hid hc
    have HL := Lib.hid hl'
    clear hc hl'
    rcases h0 with rfl | rfl
    all_goals
      go_enter Try.func14, Try.ntmps14
      go_wp2_with fail
      refine (rtAdd_any H1.out ⟨d, b, v, o⟩ HR.out hl HC.out HL.out).mono ?_
      rintro e w1 ⟨rfl, t1, f1⟩
      have A := Lib.hid (KP.out _ _ _ ⟨rfl, t1, f1⟩)
      clear t1 f1
      go_wp2_with fail
      go_ret
      exact A.out
  · rw [if_neg h0] at hc hl'
    have hn0 : ¬ kd = 0 := fun h => h0 (.inl h)
    have hn1 : ¬ kd = 1 := fun h => h0 (.inr h)
    by_cases h2 : kd = 2
    · rw [if_pos h2] at hc hl'
      subst h2
      obtain ⟨cd, hcd⟩ : ∃ cd, cutN d b = cd := ⟨_, rfl⟩
      have hd := HR.out.1
      have hr2 := cutR_ok HR.out
      simp only [cutR, hcd] at hc hl' hr2
      have HC := Lib.hid hc
      have HL := Lib.hid hl'
      have HD := Lib.hid hcd
      have HR2 := Lib.hid hr2
      have H2 := Lib.hid (H.out.no ((Fr.refl No w).alloc (.cells #[.int .i64 2, .int .u32 cd, .int .i64 b, .int .u32 v, .int .i64 o, .int .u32 ip] 35)))
      clear hc hl' hcd hr2 h0 hn0 hn1 H1 HF
      go_enter Try.func14, Try.ntmps14
      go_wp2_with fail
      refine (rtCut_eq _ hd.1 hd.2 HD.out).mono ?_
      rintro e w1 ⟨rfl, rfl⟩
      go_wp2_with fail
      refine (rtAdd_any H2.out ⟨cd, b, v, o⟩ HR2.out hl HC.out HL.out).mono ?_
      rintro e w1 ⟨rfl, t1, f1⟩
      have A := Lib.hid (KP.out _ _ _ ⟨rfl, t1, f1⟩)
      clear t1 f1
      go_wp2_with fail
      go_ret
      exact A.out
    · rw [if_neg h2] at hc hl'
      by_cases h3 : kd = 3
      · rw [if_pos h3] at hc hl'
        subst h3
        have HO : Hid (DelOut l (d, b) c l') := Lib.hid (by rw [← hc, ← hl']; exact delOut_of l (d, b))
        clear hc hl' h0 hn0 hn1 h2 HF
        go_enter Try.func14, Try.ntmps14
        go_wp2_with fail
        refine (rtDel_any H1.out ⟨HR.out.1, HR.out.2.1⟩ HO.out).mono ?_
        rintro e w1 ⟨rfl, t1, f1⟩
        have A := Lib.hid (KP.out _ _ _ ⟨rfl, t1, f1⟩)
        clear t1 f1
        go_wp2_with fail
        go_ret
        exact A.out
      · rw [if_neg h3] at hc hl'
        subst hc hl'
        have A := Lib.hid (KP.out _ _ _ ⟨rfl, H1.out, Fr.refl _ _⟩)
        clear KP H H1 HF
        go_enter Try.func14, Try.ntmps14
        go_wp2_with fail
        go_ret
        exact A.out

/-- The table behind steps. -/
def stepsTo (l : RL) : List St8 → RL
  | [] => l
  | x :: r => stepsTo (stepTo l x) r
theorem stepsTo_snoc (l : RL) (xs : List St8) (x : St8) : stepsTo l (xs ++ [x]) = stepTo (stepsTo l xs) x := by
  induction xs generalizing l with
  | nil => rfl
  | cons y r ih => exact ih _
theorem Good.steps {l : RL} (g : Good l) : ∀ {xs : List St8}, (∀ x ∈ xs, x.ok) → Good (stepsTo l xs) := by
  intro xs
  induction xs generalizing l with
  | nil => intro _; exact g
  | cons x r ih => intro h; exact ih (g.step (h x (by simp))) (fun y hy => h y (by simp [hy]))

theorem add_of_spot' {x : Addr} (h : x.spot = none) (k : Nat) : x.add k = ⟨x.block, x.off + k, none⟩ := by
  unfold Addr.add
  split
  · rename_i h0
    subst h0
    cases x
    simp only at h
    subst h
    rfl
  · rfl
/-- Steps that are read. -/
def Ss (w : World) (ao : Option Addr) (n cap : Nat) (xs : List St8) : Prop := n = xs.length ∧ Sl w ao n cap (xs.flatMap encS8) ∧ ∀ x ∈ xs, x.ok
theorem flat6 {xs : List St8} {i : Nat} {x : St8} (h : xs[i]? = some x) (j : Nat) (hj : j < 6) : (xs.flatMap encS8)[i * 6 + j]? = (encS8 x)[j]? := by
  have hi := (List.getElem?_eq_some_iff.1 h).1
  rw [flatMap_get (k := 6) (fun _ => rfl) (by omega) xs (i * 6 + j) (by omega)]
  rw [show (i * 6 + j) / 6 = i by omega, show (i * 6 + j) % 6 = j by omega, h]
  rfl
theorem Ss.at {w : World} {ao : Option Addr} {n cap : Nat} {xs : List St8} (h : Ss w ao n cap xs) {i : Nat} {x : St8} (hx : xs[i]? = some x) : ∃ a, ao = some a ∧ a.spot = none ∧
    w.cell? ⟨a.block, a.off + i * 6, none⟩ = some (.int .i64 x.kind) ∧ w.cell? ⟨a.block, a.off + i * 6 + 1, none⟩ = some (.int .u32 x.r.dst) ∧ w.cell? ⟨a.block, a.off + i * 6 + 2, none⟩ = some (.int .i64 x.r.bits) ∧
    w.cell? ⟨a.block, a.off + i * 6 + 3, none⟩ = some (.int .u32 x.r.via) ∧ w.cell? ⟨a.block, a.off + i * 6 + 4, none⟩ = some (.int .i64 x.r.out) ∧ w.cell? ⟨a.block, a.off + i * 6 + 5, none⟩ = some (.int .u32 x.ip) := by
  obtain ⟨hn, hs, -⟩ := h
  have hi := (List.getElem?_eq_some_iff.1 hx).1
  cases ao with
  | none => have := hs.nocap rfl; have := hs.le; omega
  | some a =>
    obtain ⟨x0, hx0⟩ : ∃ x0, xs[0]? = some x0 := ⟨xs[0], List.getElem?_eq_getElem (by omega)⟩
    have hsp : a.spot = none := by
      have := hs.cell a rfl (0 * 6 + 0) (.int .i64 x0.kind) (flat6 hx0 0 (by omega))
      exact World.cell?_spot this
    have e : ∀ k, a.add k = ⟨a.block, a.off + k, none⟩ := fun k => add_of_spot' hsp k
    have c := fun j u hj (hu : (encS8 x)[j]? = some u) => hs.cell a rfl (i * 6 + j) u ((flat6 hx j hj).trans hu)
    simp only [e, ← Nat.add_assoc] at c
    exact ⟨a, rfl, hsp, c 0 _ (by omega) rfl, c 1 _ (by omega) rfl, c 2 _ (by omega) rfl, c 3 _ (by omega) rfl, c 4 _ (by omega) rfl, c 5 _ (by omega) rfl⟩
theorem Ss.no {w w' : World} {ao : Option Addr} {n cap : Nat} {xs : List St8} (h : Ss w ao n cap xs) (hf : Fr No w w') : Ss w' ao n cap xs := ⟨h.1, h.2.1.no hf, h.2.2⟩

set_option maxRecDepth 100000 in
theorem open_steps8 {H : Type} {enc : TypeId × Value → H} {w : World} {base : Nat} {spare : Nat → Bool} {held : Bool} {r : Reach} {b0 : Nat} {v : Value} {d : DataW H} {p : List MemPlace}
    (hv : Value.okWide Try.prog w r b0 22 v) (h : DataW.Trod enc Try.prog w base spare held 22 v d p) :
    ∃ ao n cap xs, v = .slice ao n cap ∧ Ss w ao n cap xs := by
  obtain ⟨ao, n, cap, rfl, hl, hc, hn, hel⟩ := open_srows Try.underlying22 hv h
  have hcs : Try.prog.cellsOf 35 = 6 := by kernel_rfl
  have hlv : leaves Try.prog 3 35 = [(0, 3), (1, 31), (2, 3), (3, 31), (4, 3), (5, 31)] := by kernel_rfl
  rw [hcs] at hel
  obtain ⟨xs, h1, h2, h3⟩ := rows_list (α := St8) (enc := encS8) (k := 6) (Q := St8.ok) (w := w) (ao := ao) (n := n) (cap := cap) (fun _ => rfl) hl hc hn (by
    intro i hi
    cases ao with
    | none => have := hn rfl; omega
    | some a =>
      obtain ⟨cs, y, m, ht, hcell⟩ := hel a rfl i hi
      obtain ⟨z0, c0, w0⟩ := leaf_int (k := .i64) 3 ht (o := 0) (u := 3) (by rw [hlv]; simp) Try.underlying3
      obtain ⟨z1, c1, w1⟩ := leaf_int (k := .u32) 3 ht (o := 1) (u := 31) (by rw [hlv]; simp) Try.underlying31
      obtain ⟨z2, c2, w2⟩ := leaf_int (k := .i64) 3 ht (o := 2) (u := 3) (by rw [hlv]; simp) Try.underlying3
      obtain ⟨z3, c3, w3⟩ := leaf_int (k := .u32) 3 ht (o := 3) (u := 31) (by rw [hlv]; simp) Try.underlying31
      obtain ⟨z4, c4, w4⟩ := leaf_int (k := .i64) 3 ht (o := 4) (u := 3) (by rw [hlv]; simp) Try.underlying3
      obtain ⟨z5, c5, w5⟩ := leaf_int (k := .u32) 3 ht (o := 5) (u := 31) (by rw [hlv]; simp) Try.underlying31
      refine ⟨⟨z0, ⟨z1, z2, z3, z4⟩, z5⟩, ⟨wf_i64 w0, ⟨wf_u32 w1, wf_i64 w2, wf_u32 w3, wf_i64 w4⟩, wf_u32 w5⟩, fun a' ha j u hu => ?_⟩
      cases ha
      match j, hu with
      | 0, hu => cases hu; exact hcell 0 _ c0
      | 1, hu => cases hu; exact hcell 1 _ c1
      | 2, hu => cases hu; exact hcell 2 _ c2
      | 3, hu => cases hu; exact hcell 3 _ c3
      | 4, hu => cases hu; exact hcell 4 _ c4
      | 5, hu => cases hu; exact hcell 5 _ c5
      | j + 6, hu => simp [encS8] at hu)
  exact ⟨ao, n, cap, xs, rfl, h1.symm, h3, h2⟩
end Go.Proofs.Ytapiaaffnhmmiaa
