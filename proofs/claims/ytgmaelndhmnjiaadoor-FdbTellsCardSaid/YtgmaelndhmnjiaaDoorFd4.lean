/- fdb: List's order; sorting entries. -/
import Derived.Test.YtgmaelndhmnjiaaDoorFd4o
import Derived.Test.YtgmaelndhmnjiaaDoorSortK
import Derived.Test.YtgmaelndhmnjiaaDoorFdLay
import Derived.StillTailTactics
namespace Go.Proofs.YtgmaelndhmnjiaaDoor
open Go.RowKit
set_option linter.unusedVariables false
set_option linter.unusedSimpArgs false

set_option maxRecDepth 100000 in
set_option maxHeartbeats 1000000 in
theorem fbListF_at (x y : En) {r : Int} (hr : cmpE x y = r) (w : World) : Calls Tryd.prog 31 #[evE x, evE y] w fun e w' => e = .returned (.int .i64 r) ∧ ∃ q os', w' = Go.Sort.grow (w.drewN q) os' := by
  have HR := Lib.hid hr
  obtain ⟨ox, hox⟩ : ∃ o : Obj, o = .cells #[byteV x.mac.a, byteV x.mac.b, byteV x.mac.c, byteV x.mac.d, byteV x.mac.e, byteV x.mac.f, .bool x.tun, .int .i64 x.n, .int .u64 x.at_, .bool x.st] 60 := ⟨_, rfl⟩
  obtain ⟨oy, hoy⟩ : ∃ o : Obj, o = .cells #[byteV y.mac.a, byteV y.mac.b, byteV y.mac.c, byteV y.mac.d, byteV y.mac.e, byteV y.mac.f, .bool y.tun, .int .i64 y.n, .int .u64 y.at_, .bool y.st] 60 := ⟨_, rfl⟩
  have hg : ∃ os, (w.alloc ox).alloc oy = Go.Sort.grow w os := ⟨_, by rw [Go.Sort.alloc_eq_grow, Go.Sort.alloc_eq_grow, Go.Sort.grow_grow]⟩
  have h1 : ((w.alloc ox).alloc oy).heap[w.heap.size]? = some ox := ((Fr.refl No _).alloc oy).heap (heap_alloc_new w ox) (fun h => h)
  have h2 : ((w.alloc ox).alloc oy).heap[w.heap.size + 1]? = some oy := by
    have := heap_alloc_new (w.alloc ox) oy
    rwa [show (w.alloc ox).heap.size = w.heap.size + 1 from by simp] at this
  rw [hox] at h1
  rw [hoy] at h2
  have B1 := Lib.hid (enBs h1)
  have B2 := Lib.hid (enBs h2)
  have HG := Lib.hid hg
  clear hr hg h1 h2
  subst hox hoy
  unfold evE
  go_enter Tryd.func31, Tryd.ntmps31
  go_wp2
  generalize World.alloc (World.alloc _ _) _ = wv at B1 B2 HG ⊢
  go_quiet ((go_at_call 32; exact bCmp_q _ B1.out B2.out))
  go_wp2
  go_ret
  obtain ⟨os, hos⟩ := HG.out
  refine ⟨?_, nq, os, ?_⟩
  · rw [← HR.out]; rfl
  · rw [hos]; rfl
theorem cmpLaysE (blk off size : Nat) (w : World) : Go.Proofs.CmpLays Tryd.prog 31 #[] encE 10 cmpE blk off size w :=
  fun _ _ _ _ x y => fbListF_at x y rfl _
theorem ltOf_E : Go.Proofs.ltOf cmpE = ltE := by
  funext x y
  exact cmpM_neg x.mac y.mac
theorem swoE : Go.Sort.SWO (Go.Proofs.ltOf cmpE) := by
  rw [ltOf_E]
  constructor
  · intro x; exact ltM_irrefl _
  · intro x y z h1 h2; exact ltM_trans h1 h2
  · intro x y z h1 h2
    cases h3 : ltE x z with
    | false => rfl
    | true =>
      by_cases hxy : x.mac = y.mac
      · unfold ltE at *; rw [hxy] at h3; rw [h3] at h2; exact h2
      · have h4 := ltM_total h1 hxy
        have h5 : ltM y.mac z.mac = true := ltM_trans h4 h3
        unfold ltE at h2; rw [h5] at h2; exact h2
end Go.Proofs.YtgmaelndhmnjiaaDoor
