/- A gre.Header that came in. -/
import Derived.Test.YtghjcgpdmlfmjaaDoorLiftFlat

namespace Go.Proofs.YtghjcgpdmlfmjaaDoor
open Go.RowKit Go.Deep Go.ChangeShapes Go.WideShapes
set_option linter.unusedVariables false

theorem list5 {α : Type} {l : List α} (h : l.length = 5) : ∃ a b c d e, l = [a, b, c, d, e] := by
  match l, h with
  | [a, b, c, d, e], _ => exact ⟨a, b, c, d, e, rfl⟩

set_option maxRecDepth 100000 in
theorem open_gh {H : Type} {enc : TypeId × Value → H} {w : World} {base : Nat} {spare : Nat → Bool} {held : Bool} {r : Reach} {b0 : Nat} {v : Value} {d : DataW H} {p : List MemPlace}
    (hv : Value.okWide Tryd.prog w r b0 40 v) (h : DataW.Trod enc Tryd.prog w base spare held 40 v d p) :
    ∃ (s k : Bool) (key : Nat) (q : Bool) (seq : Nat), v = .agg #[.bool s, .bool k, .int .u32 key, .bool q, .int .u32 seq] ∧ key < 4294967296 ∧ seq < 4294967296 := by
  obtain ⟨cs, rfl, hl, hc⟩ := open_flat Tryd.underlying40 (by kernel_rfl) (by kernel_rfl) hv h
  obtain ⟨x0, x1, x2, x3, x4, rfl⟩ := list5 hl
  · skip
    obtain ⟨_, _, _, h0, t0⟩ := hc 0 _ rfl
    obtain ⟨_, _, _, h1, t1⟩ := hc 1 _ rfl
    obtain ⟨_, _, _, h2, t2⟩ := hc 2 _ rfl
    obtain ⟨_, _, _, h3, t3⟩ := hc 3 _ rfl
    obtain ⟨_, _, _, h4, t4⟩ := hc 4 _ rfl
    cases h0; cases h1; cases h2; cases h3; cases h4
    obtain ⟨s, rfl⟩ := cell_bool Tryd.underlying4 t0
    obtain ⟨k, rfl⟩ := cell_bool Tryd.underlying4 t1
    obtain ⟨key, rfl, hk⟩ := cell_u32 Tryd.underlying22 t2
    obtain ⟨q, rfl⟩ := cell_bool Tryd.underlying4 t3
    obtain ⟨seq, rfl, hq⟩ := cell_u32 Tryd.underlying22 t4
    exact ⟨s, k, key, q, seq, rfl, hk, hq⟩

end Go.Proofs.YtghjcgpdmlfmjaaDoor
