/- RouteOrder: its walk. -/
import Derived.Test.YtapiaaffnhmmiaaRt8
import Derived.Test.YtapiaaffnhmmiaaLawRouteLongest
import Derived.Test.YtapiaaffnhmmiaaLawRouteRefines
namespace Go.Proofs.Ytapiaaffnhmmiaa
open Go.RowKit
set_option linter.unusedVariables false
set_option linter.unusedSimpArgs false

/-- Routes as a table's entries. -/
def entries (rs : List Rt) : RL := rs.map fun r => ((r.dst, r.bits), r)
theorem entries_vals (rs : List Rt) : (entries rs).map (·.2) = rs := by simp [entries, Function.comp_def]
theorem entries_keys (rs : List Rt) : (entries rs).map (·.1) = rs.map fun r => (r.dst, r.bits) := by simp [entries, Function.comp_def]
/-- What the row of routes is. -/
structure Row (rs : List Rt) : Prop where
  nd : (rs.map fun r => (r.dst, r.bits)).Nodup
  ok : ∀ r ∈ rs, r.ok
  bits : ∀ r ∈ rs, 0 ≤ r.bits ∧ r.bits ≤ 32
  cut : ∀ r ∈ rs, cutN r.dst r.bits = r.dst
  len : rs.length ≤ 60
theorem Row.nil : Row [] := ⟨by simp, by simp, by simp, by simp, by simp⟩
theorem Row.snoc {rs : List Rt} (h : Row rs) {r : Rt} (h1 : r.ok) (h2 : 0 ≤ r.bits ∧ r.bits ≤ 32) (h3 : cutN r.dst r.bits = r.dst) (h4 : rs.length < 60) (h5 : ∀ s ∈ rs, ¬ (s.dst = r.dst ∧ s.bits = r.bits)) : Row (rs ++ [r]) := by
  refine ⟨?_, ?_, ?_, ?_, by simp; omega⟩
  · rw [List.map_append, List.nodup_append]
    refine ⟨h.nd, by simp, ?_⟩
    intro a ha b hb e
    simp at hb
    obtain ⟨s, hs, rfl⟩ := List.mem_map.1 ha
    rw [hb] at e
    simp at e
    exact h5 s hs e
  all_goals
    intro s hs
    rcases List.mem_append.1 hs with hs | hs
    · first | exact h.ok s hs | exact h.bits s hs | exact h.cut s hs
    · rw [List.mem_singleton] at hs; subst hs; assumption
theorem Row.sub {rs ss : List Rt} (h : Row rs) (hs : ss.Sublist rs) : Row ss :=
  ⟨(hs.map _).nodup h.nd, fun r hr => h.ok r (hs.subset hr), fun r hr => h.bits r (hs.subset hr), fun r hr => h.cut r (hs.subset hr), Nat.le_trans hs.length_le h.len⟩
theorem Row.rev {rs : List Rt} (h : Row rs) : Row rs.reverse :=
  ⟨by rw [List.map_reverse]; exact (List.reverse_perm _).nodup_iff.2 h.nd, fun r hr => h.ok r (by simpa using hr), fun r hr => h.bits r (by simpa using hr), fun r hr => h.cut r (by simpa using hr), by simpa using h.len⟩
theorem Row.good {rs : List Rt} (h : Row rs) : Good (entries rs) := by
  refine ⟨by rw [entries_keys]; exact h.nd, ?_, ?_, ?_, ?_, by have := h.len; simp [entries]; omega⟩
  all_goals
    intro p hp
    obtain ⟨r, hr, rfl⟩ := List.mem_map.1 hp
    first | rfl | exact h.bits r hr | exact h.cut r hr | exact h.ok r hr
/-- One more route is added. -/
theorem Row.add {rs : List Rt} {r : Rt} (h : Row (rs ++ [r])) : addCode (entries rs) r = 0 ∧ addTo (entries rs) r = entries (rs ++ [r]) := by
  have hg : mget (entries rs) (r.dst, r.bits) = none := by
    rw [mget_none]
    intro p hp
    obtain ⟨s, hs, rfl⟩ := List.mem_map.1 hp
    have := h.nd
    rw [List.map_append, List.nodup_append] at this
    exact this.2.2 _ (List.mem_map.2 ⟨s, hs, rfl⟩) _ (by simp)
  have e : addCode (entries rs) r = 0 := by
    unfold addCode
    have h1 := h.bits r (by simp)
    have h2 := h.cut r (by simp)
    have h3 := h.len
    rw [if_neg (by intro hh; rcases hh with hh | hh | hh; omega; omega; exact hh h2), if_neg (by simp [entries] at *; omega)]
  refine ⟨e, ?_⟩
  unfold addTo
  rw [if_pos e]
  unfold mput
  rw [hg]
  simp [entries]

theorem findN_congr {l l' : RL} (h : ∀ k, mget l k = mget l' k) (ip : Int) (n : Nat) : findN l ip n = findN l' ip n := by
  induction n with
  | zero => rfl
  | succ n ih => unfold findN; rw [h, ih]
theorem entries_rev (rs : List Rt) : (entries rs).Perm (entries rs.reverse) := by
  unfold entries
  exact (List.reverse_perm rs).symm.map _
theorem sorted_one : ∀ {l l' : List Rt}, l.Perm l' → (l.map fun r => (r.dst, r.bits)).Nodup → l.Pairwise (fun x y => ltR y x = false) → l'.Pairwise (fun x y => ltR y x = false) → l = l'
  | [], l', hp, _, _, _ => (List.nil_perm.1 hp).symm
  | a :: r, l', hp, hn, h1, h2 => by
    cases l' with
    | nil => have := hp.length_eq; simp at this
    | cons b s =>
      have hab : a = b := by
        apply Classical.byContradiction
        intro hne
        have ha : a ∈ s := by
          have : a ∈ b :: s := hp.mem_iff.1 (by simp)
          rcases List.mem_cons.1 this with h | h
          · exact absurd h hne
          · exact h
        have hb : b ∈ r := by
          have : b ∈ a :: r := hp.mem_iff.2 (by simp)
          rcases List.mem_cons.1 this with h | h
          · exact absurd h.symm hne
          · exact h
        have k1 := (List.pairwise_cons.1 h1).1 b hb
        have k2 := (List.pairwise_cons.1 h2).1 a ha
        have k3 : ¬ (a.dst = b.dst ∧ a.bits = b.bits) := by
          intro hh
          rw [List.map_cons, List.nodup_cons] at hn
          exact hn.1 (List.mem_map.2 ⟨b, hb, by rw [hh.1, hh.2]⟩)
        simp [ltR] at k1 k2
        omega
      subst hab
      have := sorted_one ((List.perm_cons a).1 hp) (by rw [List.map_cons, List.nodup_cons] at hn; exact hn.2) (List.pairwise_cons.1 h1).2 (List.pairwise_cons.1 h2).2
      rw [this]
theorem sorted_at {l : List Rt} (hn : (l.map fun r => (r.dst, r.bits)).Nodup) (hs : l.Pairwise (fun x y => ltR y x = false)) {i : Nat} {x y : Rt} (hx : l[i]? = some x) (hy : l[i + 1]? = some y) : x.dst < y.dst ∨ (x.dst = y.dst ∧ x.bits < y.bits) := by
  obtain ⟨h1, e1⟩ := List.getElem?_eq_some_iff.1 hx
  obtain ⟨h2, e2⟩ := List.getElem?_eq_some_iff.1 hy
  have k1 := List.pairwise_iff_getElem.1 hs i (i + 1) h1 h2 (by omega)
  rw [List.nodup_iff_pairwise_ne, List.pairwise_map] at hn
  have k2 := List.pairwise_iff_getElem.1 hn i (i + 1) h1 h2 (by omega)
  rw [e1, e2] at k1 k2
  simp [ltR] at k1 k2
  omega
/-- append at []route.Route, of one. -/
theorem wpl_append_rt {w : World} {ops : Array Oper} {rest : List Oper} {o : Oper} {a : Act} {Q : Exit → Act → World → Prop} (s x : Operand)
    (hgd : o.guard = none) (hop : o.op = .call { callee := .builtin .append, args := #[s, x], argTypes := #[46, 46] })
    {ao : Option Addr} {n cap : Nat} (hev : a.eval s = .slice ao n cap) {bo : Option Addr} {c : Nat} (hex : a.eval x = .slice bo 1 c)
    {xs : List Value} (r : Rt) (h1 : Own w 33 4 ao n cap xs) (h2 : Sl w bo 1 c (encR r)) (hb : n ≤ 1000000)
    (hK : ∀ ao' cap' w', Own w' 33 4 ao' (n + 1) cap' (xs ++ encR r) → Fr (At ao) w w' → (ao' = ao ∨ ∀ a, ao' = some a → w.heap.size ≤ a.block) →
      wpList Try.prog ops Q rest (a.put o.dst (.slice ao' (n + 1) cap')) w') :
    wpList Try.prog ops Q (o :: rest) a w := by
  obtain ⟨i0, hi, hz0, hz1, hz2⟩ := info_parts info_route
  refine wpList_append_U w hgd s x 46 hop 33 i0 _ 4 32 Try.underlying46 hi hz0 hz1 hz2 rfl (by decide) ao n cap hev bo 1 c hex xs h1 _ h2 rfl (by simp [encR, Value.oneCell'])
    (by omega) (by omega) ?_
  intro ao' cap' w' r1 r2 r3 _ r5
  exact hK ao' cap' w' r1 r2 r3
/-- Routes that are read. -/
def Rs8 (w : World) (ao : Option Addr) (n cap : Nat) (xs : List Rt) : Prop := n = xs.length ∧ Sl w ao n cap (xs.flatMap encR) ∧ ∀ x ∈ xs, x.ok
theorem rows4_any {w : World} {ao : Option Addr} {n cap : Nat} {ys : List Rt} (hn : n = ys.length) (h : Sl w ao n cap (ys.flatMap encR)) {i : Nat} {y : Rt} (hy : ys[i]? = some y) : ∃ g off, ao = some ⟨g, off, none⟩ ∧
    w.cell? ⟨g, off + i * 4, none⟩ = some (.int .u32 y.dst) ∧ w.cell? ⟨g, off + i * 4 + 1, none⟩ = some (.int .i64 y.bits) ∧ w.cell? ⟨g, off + i * 4 + 2, none⟩ = some (.int .u32 y.via) ∧ w.cell? ⟨g, off + i * 4 + 3, none⟩ = some (.int .i64 y.out) := by
  have hi := (List.getElem?_eq_some_iff.1 hy).1
  cases ao with
  | none => have := h.nocap rfl; have := h.le; omega
  | some a =>
    obtain ⟨x0, hx0⟩ : ∃ x0, ys[0]? = some x0 := ⟨ys[0], List.getElem?_eq_getElem (by omega)⟩
    have hsp : a.spot = none := by
      have := h.cell a rfl (0 * 4 + 0) (.int .u32 x0.dst) (flat4 hx0 0 (by omega))
      exact World.cell?_spot this
    have e : ∀ k, a.add k = ⟨a.block, a.off + k, none⟩ := fun k => add_of_spot' hsp k
    have c := fun j u hj (hu : (encR y)[j]? = some u) => h.cell a rfl (i * 4 + j) u ((flat4 hy j hj).trans hu)
    simp only [e, ← Nat.add_assoc] at c
    obtain ⟨ab, aoff, asp⟩ := a
    simp only at hsp
    subst hsp
    exact ⟨ab, aoff, rfl, c 0 _ (by omega) rfl, c 1 _ (by omega) rfl, c 2 _ (by omega) rfl, c 3 _ (by omega) rfl⟩
set_option maxRecDepth 100000 in
theorem open_routes {H : Type} {enc : TypeId × Value → H} {w : World} {base : Nat} {spare : Nat → Bool} {held : Bool} {r : Reach} {b0 : Nat} {v : Value} {d : DataW H} {p : List MemPlace}
    (hv : Value.okWide Try.prog w r b0 46 v) (h : DataW.Trod enc Try.prog w base spare held 46 v d p) :
    ∃ ao n cap xs, v = .slice ao n cap ∧ Rs8 w ao n cap xs := by
  obtain ⟨ao, n, cap, rfl, hl, hc, hn, hel⟩ := open_srows Try.underlying46 hv h
  have hcs : Try.prog.cellsOf 33 = 4 := by kernel_rfl
  have hlv : leaves Try.prog 3 33 = [(0, 31), (1, 3), (2, 31), (3, 3)] := by kernel_rfl
  rw [hcs] at hel
  obtain ⟨xs, h1, h2, h3⟩ := rows_list (α := Rt) (enc := encR) (k := 4) (Q := Rt.ok) (w := w) (ao := ao) (n := n) (cap := cap) (fun _ => rfl) hl hc hn (by
    intro i hi
    cases ao with
    | none => have := hn rfl; omega
    | some a =>
      obtain ⟨cs, y, m, ht, hcell⟩ := hel a rfl i hi
      obtain ⟨z1, c1, w1⟩ := leaf_int (k := .u32) 3 ht (o := 0) (u := 31) (by rw [hlv]; simp) Try.underlying31
      obtain ⟨z2, c2, w2⟩ := leaf_int (k := .i64) 3 ht (o := 1) (u := 3) (by rw [hlv]; simp) Try.underlying3
      obtain ⟨z3, c3, w3⟩ := leaf_int (k := .u32) 3 ht (o := 2) (u := 31) (by rw [hlv]; simp) Try.underlying31
      obtain ⟨z4, c4, w4⟩ := leaf_int (k := .i64) 3 ht (o := 3) (u := 3) (by rw [hlv]; simp) Try.underlying3
      refine ⟨⟨z1, z2, z3, z4⟩, ⟨wf_u32 w1, wf_i64 w2, wf_u32 w3, wf_i64 w4⟩, fun a' ha j u hu => ?_⟩
      cases ha
      match j, hu with
      | 0, hu => cases hu; exact hcell 0 _ c1
      | 1, hu => cases hu; exact hcell 1 _ c2
      | 2, hu => cases hu; exact hcell 2 _ c3
      | 3, hu => cases hu; exact hcell 3 _ c4
      | j + 4, hu => simp [encR] at hu)
  exact ⟨ao, n, cap, xs, rfl, h1.symm, h3, h2⟩
end Go.Proofs.Ytapiaaffnhmmiaa
