/- A tunnel that came in; frames that came in. -/
import Derived.Test.YthoppkklooomgaaTnR
import Derived.Test.YthoppkklooomgaaLiftRows
import Derived.SizedLaws
namespace Go.Proofs.Ythoppkklooomgaa
open Go.RowKit Go.Deep Go.ChangeShapes Go.WideShapes
set_option linter.unusedVariables false
section
variable {H : Type} {enc : TypeId × Value → H} {P : Program} {w : World} {base : Nat} {spare : Nat → Bool} {held : Bool}
theorem slice_len {t e : TypeId} (ht : P.underlying t = some (.slice e)) {fuel : Nat} {ao : Option Addr} {n cap b : Nat} {y : DataW H × List MemPlace} (h : DataW.trod enc P w base spare held fuel t [.slice ao n cap] = some y) (hz : ∀ z ∈ y.1.weights P t, z ≤ b) : n * P.bytesOf e ≤ b := by
  rcases open_slice ht h with ⟨h0, -⟩ | ⟨a, len, cp, m, k, D, Pl, hcs, hb, hl, hm, hmm, hx, hi⟩
  · simp at h0
    obtain ⟨-, rfl, -⟩ := h0
    simp
  · simp at hcs
    obtain ⟨-, rfl, -⟩ := hcs
    subst hx
    have := hz ((n + (m - n)) * P.bytesOf e) (by simp [DataW.weights, ht])
    exact Nat.le_trans (Nat.mul_le_mul_right _ (by omega)) this
theorem flat_cells {t : TypeId} {fs : Array Field} {cs : List Value} {y : DataW H × List MemPlace} {fuel b : Nat} (hs : P.underlying t = some (.struct fs)) (hone : oneCellFields P fs = true) (hC : P.cellsOf t = fs.size)
    (h : DataW.trod enc P w base spare held fuel t cs = some y) (hz : ∀ z ∈ y.1.weights P t, z ≤ b) :
    cs.length = fs.size ∧ ∀ (j : Nat) (f : Field), fs[j]? = some f → ∃ c y' n, cs[j]? = some c ∧ DataW.trod enc P w base spare held n f.type [c] = some y' ∧ ∀ z ∈ y'.1.weights P f.type, z ≤ b := by
  obtain ⟨xs, n, _, rfl, hcl, hlen, hg⟩ := DataW.trod_struct hs h
  have hl : cs.length = fs.size := by omega
  refine ⟨hl, fun j f hj => ?_⟩
  obtain ⟨ho, hk⟩ := hone_of hone j f hj
  have hj' : j < fs.size := (Array.getElem?_eq_some_iff.1 hj).1
  have h1 := hg j f hj
  have hjc : j < cs.length := by omega
  rw [ho, hk, List.drop_eq_getElem_cons hjc] at h1
  have hx : xs[j]? = some (xs[j]'(by omega)) := List.getElem?_eq_getElem (by omega)
  refine ⟨cs[j], xs[j]'(by omega), n, List.getElem?_eq_getElem hjc, h1.trans hx, fun z hzz => hz z ?_⟩
  show z ∈ DataW.weights P t (.agg (xs.map (·.1)))
  unfold DataW.weights
  rw [hs]
  exact DataW.weights_mem_each (j := j) (t := f.type) (d := (xs[j]'(by omega)).1) (by rw [List.getElem?_map, Array.getElem?_toList, hj]; rfl) (by rw [List.getElem?_map, hx]; rfl) z hzz
theorem open_rows2 {H : Type} {enc : TypeId × Value → H} {P : Program} {w : World} {base : Nat} {spare : Nat → Bool} {held : Bool} {t e : TypeId} {fs : Array Field} {v : Value} {d : DataW H} {p : List MemPlace}
    (ht : P.underlying t = some (.slice e)) (he : P.underlying e = some (.struct fs)) (hone : oneCellFields P fs = true) (hC : P.cellsOf e = fs.size) (hv : ∃ ao n cap, v = Value.slice ao n cap) (h : DataW.Trod enc P w base spare held t v d p) :
    ∃ ao n cap, v = .slice ao n cap ∧ n ≤ cap ∧ cap ≤ 9223372036854775807 ∧ (ao = none → cap = 0) ∧
      ∀ a, ao = some a → ∀ i, i < n → ∀ (j : Nat) (f : Field), fs[j]? = some f → ∃ c y m, w.cell? (a.add (i * fs.size + j)) = some c ∧ DataW.trod enc P w base spare held m f.type [c] = some y := by
  obtain ⟨ao, n, cap, rfl⟩ := hv
  obtain ⟨fuel, hf⟩ := h
  rcases open_slice ht hf with ⟨h0, -⟩ | ⟨a, len, cp, m, k, D, Pl, hcs, hb, hl, hm, hmm, hx, hi⟩
  · simp [Value.cells] at h0
    obtain ⟨rfl, rfl, rfl⟩ := h0
    exact ⟨none, 0, 0, rfl, Nat.le_refl _, by omega, fun _ => rfl, fun a h => by cases h⟩
  · simp [Value.cells] at hcs
    obtain ⟨rfl, rfl, rfl⟩ := hcs
    refine ⟨_, _, _, rfl, hl, by unfold maxLen at hm; omega, fun h => (by cases h), ?_⟩
    intro a' ha i hin j f hj
    cases ha
    have him : i < m := by rw [hmm]; split <;> omega
    obtain ⟨cs', hc, ht'⟩ := hi i him
    rw [hC] at hc
    obtain ⟨ys, q, _, hy, hlen, hyl, hg⟩ := DataW.trod_struct he ht'
    obtain ⟨_, hcl, hat⟩ := World.cells?_some hc
    obtain ⟨ho, hk⟩ := hone_of hone j f hj
    have hjl : j < fs.size := (Array.getElem?_eq_some_iff.1 hj).1
    have hcell := hat j hjl
    have hjc : j < cs'.length := by omega
    have h1 := hg j f hj
    rw [ho, hk, List.drop_eq_getElem_cons hjc] at h1
    rw [List.getElem?_eq_getElem hjc, Addr.add_add] at hcell
    exact ⟨_, _, q, hcell, h1.trans (List.getElem?_eq_getElem (by omega))⟩

theorem cell_us {n : Nat} {t e : TypeId} {c : Value} {y : DataW H × List MemPlace} (ht : P.underlying t = some (.slice e)) (he : P.underlying e = some (.int .u32)) (hc : P.cellsOf e = 1) (h : DataW.trod enc P w base spare held n t [c] = some y) :
    ∃ bo l cap ks, c = .slice bo l cap ∧ Us w bo l cap ks ∧ ∀ k ∈ ks, k < 4294967296 := by
  rcases open_ints ht he hc h with ⟨hcs, -⟩ | ⟨a, l, cap, zs, hcs, _, hl, hm, hz, _, hcell, hw⟩
  · simp at hcs
    subst hcs
    exact ⟨none, 0, 0, [], rfl, ⟨rfl, Sl.nil w⟩, by simp⟩
  · simp at hcs
    subst hcs
    have hlz : l ≤ zs.length := by rw [hz]; split <;> omega
    refine ⟨some a, l, cap, (zs.take l).map Int.toNat, rfl, ⟨by simp; omega, hl, by unfold maxLen at hm; omega, fun h => (by cases h), fun a' ha j u hu => ?_⟩, ?_⟩
    · cases ha
      simp only [u32L, List.map_map, List.getElem?_map, Option.map_eq_some_iff] at hu
      obtain ⟨z, hzj, rfl⟩ := hu
      rw [List.getElem?_take] at hzj
      split at hzj
      · have hj : j < zs.length := (List.getElem?_eq_some_iff.1 hzj).1
        rw [hcell j hj]
        have hw' := wf_u32 (hw z (List.mem_of_getElem? hzj))
        have e : zs.getD j 0 = z := by simp [List.getD, hzj]
        rw [e]
        show some (Value.int .u32 z) = some (Value.int .u32 (z.toNat : Int))
        rw [Int.toNat_of_nonneg hw'.1]
      · cases hzj
    · intro u hu
      obtain ⟨z, hzj, rfl⟩ := List.mem_map.1 hu
      have hw' := wf_u32 (hw z (List.mem_of_mem_take hzj))
      omega
end
set_option maxRecDepth 100000 in
theorem cell_opts {H : Type} {enc : TypeId × Value → H} {w : World} {base : Nat} {spare : Nat → Bool} {held : Bool} {fuel : Nat} {v : Value} {y : DataW H × List MemPlace}
    (h0 : DataW.trod enc Try.prog w base spare held fuel 24 [v] = some y) :
    ∃ ao n cap os, v = .slice ao n cap ∧ Rs w ao n cap os := by
  have hv : ∃ ao n cap, v = Value.slice ao n cap := by
    rcases open_slice Try.underlying24 h0 with ⟨h1, -⟩ | ⟨a, len, cp, m, k, D, Pl, hcs, -⟩
    · simp at h1; exact ⟨_, _, _, h1⟩
    · simp at hcs; exact ⟨_, _, _, hcs⟩
  have h : DataW.Trod enc Try.prog w base spare held 24 v y.1 y.2 := by
    obtain ⟨ao, n, cap, rfl⟩ := hv
    exact ⟨fuel, h0⟩
  obtain ⟨ao, n, cap, rfl, hl, hc, hn, hel⟩ := open_rows2 Try.underlying24 Try.underlying38 (by kernel_rfl) (by kernel_rfl) hv h
  have each : ∀ i, i < n → ∃ o : Opt, o.cls < 65536 ∧ ∀ a, ao = some a → OptAt w a i o := by
    intro i hi
    cases ao with
    | none => have := hn rfl; omega
    | some a =>
      obtain ⟨_, _, _, h0, t0⟩ := hel a rfl i hi 0 _ rfl
      obtain ⟨_, _, _, h1, t1⟩ := hel a rfl i hi 1 _ rfl
      obtain ⟨_, _, _, h2, t2⟩ := hel a rfl i hi 2 _ rfl
      obtain ⟨c, rfl, hcl⟩ := cell_u16 Try.underlying35 t0
      obtain ⟨ty, rfl⟩ := cell_u8 Try.underlying5 t1
      obtain ⟨bo, l, cp, bs, rfl, hb⟩ := cell_bytes Try.underlying36 Try.underlying5 (by kernel_rfl) t2
      refine ⟨⟨c, ty, bs⟩, hcl, fun a' ha => ?_⟩
      cases ha
      have hsp : (a.add (i * 3)).spot = none := World.cell?_spot (by simpa using h0)
      have e : ∀ k, a.add (i * 3 + k) = ⟨(a.add (i * 3)).block, (a.add (i * 3)).off + k, none⟩ := by
        intro k
        rw [← Addr.add_add]
        exact add_of_spot hsp k
      refine ⟨bo, cp, by simpa using h0, (e 1) ▸ h1, ?_, ?_⟩
      · have := (e 2) ▸ h2
        rw [hb.1] at this; exact this
      · have := hb
        rw [hb.1] at this; exact this
  have hos : ∃ os : List Opt, os.length = n ∧ ∀ (i : Nat) (o : Opt), os[i]? = some o → o.cls < 65536 ∧ ∀ a, ao = some a → OptAt w a i o := by
    clear h hel hv hl h0
    induction n with
    | zero => exact ⟨[], rfl, fun i o ho => by simp at ho⟩
    | succ k ih =>
      obtain ⟨os, h1, h2⟩ := ih (fun i hi => each i (by omega))
      obtain ⟨o, ho⟩ := each k (by omega)
      refine ⟨os ++ [o], by simp [h1], fun i o' ho' => ?_⟩
      by_cases hi : i < os.length
      · rw [List.getElem?_append_left hi] at ho'; exact h2 i o' ho'
      · have hik : i = k := by
          have := (List.getElem?_eq_some_iff.1 ho').1
          simp at this; omega
        subst hik
        rw [← h1] at ho'
        simp at ho'
        subst ho'
        exact ho
  obtain ⟨os, h1, h2⟩ := hos
  refine ⟨ao, n, cap, os, rfl, h1.symm, hl, hc, hn, fun a ha i o ho => (h2 i o ho).2 a ha, fun o ho => ?_⟩
  obtain ⟨i, hi, rfl⟩ := List.getElem_of_mem ho
  exact (h2 i _ (List.getElem?_eq_getElem hi)).1

theorem list9 {α : Type} {l : List α} (h : l.length = 9) : ∃ a b c d e f g i j, l = [a, b, c, d, e, f, g, i, j] := by
  match l, h with
  | [a, b, c, d, e, f, g, i, j], _ => exact ⟨a, b, c, d, e, f, g, i, j, rfl⟩
theorem bytes_opt : Try.prog.bytesOf 38 = 32 := by kernel_rfl
theorem bytes_u32 : Try.prog.bytesOf 22 = 4 := by kernel_rfl
set_option maxRecDepth 100000 in
theorem trod_tunnel {H : Type} {enc : TypeId × Value → H} {w : World} {base : Nat} {spare : Nat → Bool} {held : Bool} {fuel : Nat} {cs : List Value} {y : DataW H × List MemPlace}
    (h : DataW.trod enc Try.prog w base spare held fuel 27 cs = some y) (hz : ∀ z ∈ y.1.weights Try.prog 27, z ≤ reachBytes) :
    ∃ t oo on oc ko kn kc, cs = [.int .i64 t.kind, .int .u32 (t.loc : Int), .int .u32 (t.pee : Int), .int .u32 (t.id : Int), .int .i64 t.seg, .slice oo on oc, .slice ko kn kc, .bool t.sum, .bool t.seq] ∧ TnRd w t oo on oc ko kn kc := by
  obtain ⟨hl, hc⟩ := flat_cells Try.underlying27 (by kernel_rfl) (by kernel_rfl) h hz
  obtain ⟨x0, x1, x2, x3, x4, x5, x6, x7, x8, rfl⟩ := list9 hl
  obtain ⟨_, _, _, h0, t0, -⟩ := hc 0 _ rfl
  obtain ⟨_, _, _, h1, t1, -⟩ := hc 1 _ rfl
  obtain ⟨_, _, _, h2, t2, -⟩ := hc 2 _ rfl
  obtain ⟨_, _, _, h3, t3, -⟩ := hc 3 _ rfl
  obtain ⟨_, _, _, h4, t4, -⟩ := hc 4 _ rfl
  obtain ⟨_, _, _, h5, t5, z5⟩ := hc 5 _ rfl
  obtain ⟨_, _, _, h6, t6, z6⟩ := hc 6 _ rfl
  obtain ⟨_, _, _, h7, t7, -⟩ := hc 7 _ rfl
  obtain ⟨_, _, _, h8, t8, -⟩ := hc 8 _ rfl
  cases h0; cases h1; cases h2; cases h3; cases h4; cases h5; cases h6; cases h7; cases h8
  obtain ⟨kind, rfl, k0⟩ := cell_i64 Try.underlying3 t0
  obtain ⟨loc, rfl, k1⟩ := cell_u32 Try.underlying23 t1
  obtain ⟨pee, rfl, k2⟩ := cell_u32 Try.underlying23 t2
  obtain ⟨id, rfl, k3⟩ := cell_u32 Try.underlying22 t3
  obtain ⟨seg, rfl, k4⟩ := cell_i64 Try.underlying3 t4
  obtain ⟨ko, kn, kc, ks, rfl, k6, k7⟩ := cell_us Try.underlying25 Try.underlying22 (by kernel_rfl) t6
  obtain ⟨sm, rfl⟩ := cell_bool Try.underlying4 t7
  obtain ⟨sq, rfl⟩ := cell_bool Try.underlying4 t8
  obtain ⟨oo, on, oc, os, rfl, k5⟩ := cell_opts t5
  have b5 := slice_len Try.underlying24 t5 z5
  have b6 := slice_len Try.underlying25 t6 z6
  rw [bytes_opt] at b5
  rw [bytes_u32] at b6
  unfold reachBytes at b5 b6
  exact ⟨⟨kind, loc, pee, id, seg, os, ks, sm, sq⟩, oo, on, oc, ko, kn, kc, rfl, ⟨k0, k1, k2, k3, k4, k7⟩, k5, k6, by omega, by unfold mostU; omega⟩
set_option maxRecDepth 100000 in
theorem open_tunnel {H : Type} {enc : TypeId × Value → H} {w : World} {base : Nat} {spare : Nat → Bool} {held : Bool} {r : Reach} {b0 : Nat} {v : Value} {d : DataW H} {p : List MemPlace}
    (hv : Value.okWide Try.prog w r b0 27 v) (h : DataW.Trod enc Try.prog w base spare held 27 v d p) (hz : ∀ z ∈ d.weights Try.prog 27, z ≤ reachBytes) :
    ∃ t oo on oc ko kn kc, v = .agg #[.int .i64 t.kind, .int .u32 (t.loc : Int), .int .u32 (t.pee : Int), .int .u32 (t.id : Int), .int .i64 t.seg, .slice oo on oc, .slice ko kn kc, .bool t.sum, .bool t.seq] ∧ TnRd w t oo on oc ko kn kc := by
  obtain ⟨cs, rfl, hsz⟩ := okWide_struct Try.underlying27 hv
  obtain ⟨cs⟩ := cs
  obtain ⟨fuel, hf⟩ := h
  obtain ⟨t, oo, on, oc, ko, kn, kc, rfl, ht⟩ := trod_tunnel (cs := cs) hf hz
  exact ⟨t, oo, on, oc, ko, kn, kc, rfl, ht⟩
/-- Frames that are read. -/
structure Fss (w : World) (ao : Option Addr) (n cap : Nat) : Prop where
  le : n ≤ cap
  capLe : cap ≤ 9223372036854775807
  at' : ∀ i, i < n → ∃ a bo l cp fs, ao = some a ∧ w.cell? (a.add i) = some (.slice bo l cp) ∧ Bs w bo l cp fs
theorem Fss.no {w w' : World} {ao : Option Addr} {n cap : Nat} (h : Fss w ao n cap) (hf : Fr No w w') : Fss w' ao n cap :=
  ⟨h.le, h.capLe, fun i hi => by
    obtain ⟨a, bo, l, cp, fs, h1, h2, h3⟩ := h.at' i hi
    exact ⟨a, bo, l, cp, fs, h1, hf.cell h2 (fun h => h), h3.no hf⟩⟩
set_option maxRecDepth 100000 in
theorem open_frames {H : Type} {enc : TypeId × Value → H} {w : World} {base : Nat} {spare : Nat → Bool} {held : Bool} {r : Reach} {b0 : Nat} {v : Value} {d : DataW H} {p : List MemPlace}
    (hv : Value.okWide Try.prog w r b0 28 v) (h : DataW.Trod enc Try.prog w base spare held 28 v d p) :
    ∃ ao n cap, v = .slice ao n cap ∧ Fss w ao n cap := by
  obtain ⟨ao, n, cap, rfl⟩ := okWide_slice Try.underlying28 hv
  obtain ⟨fuel, hf⟩ := h
  rcases open_slice1 Try.underlying28 (by kernel_rfl) hf with ⟨h0, -⟩ | ⟨a, len, cp, m, k, V, D, Pl, hcs, hb, hl, hm, hmm, hx, hi⟩
  · simp [Value.cells] at h0
    obtain ⟨rfl, rfl, rfl⟩ := h0
    exact ⟨none, 0, 0, rfl, Nat.le_refl _, by omega, fun i hi => by omega⟩
  · simp [Value.cells] at hcs
    obtain ⟨rfl, rfl, rfl⟩ := hcs
    refine ⟨_, _, _, rfl, hl, by unfold maxLen at hm; omega, fun i hin => ?_⟩
    have him : i < m := by rw [hmm]; split <;> omega
    obtain ⟨hc, ht⟩ := hi i him
    obtain ⟨bo, l, cp, bs, e, hbs⟩ := cell_bytes Try.underlying36 Try.underlying5 (by kernel_rfl) ht
    exact ⟨a, bo, l, cp, bs, rfl, by rw [hc, e], hbs⟩
end Go.Proofs.Ythoppkklooomgaa