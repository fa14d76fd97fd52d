/- octets: the writer's U16. -/
import Derived.Test.YthoppkklooomgaaOctW
namespace Go.Proofs.Ythoppkklooomgaa
open Go.RowKit
set_option linter.unusedVariables false
theorem Wr.fresh (w : World) : Wr (Up w.heap.size) (w.alloc (.cells #[.slice none 0 0] 94)) w.heap.size [] :=
  ⟨none, 0, 0, ⟨heap_alloc_new w _, OB.nil _ _, fun a h => (by cases h), fun a h => (by cases h), Nat.le_refl _, fun k hk => by simp at hk; simp only [Up]; omega⟩⟩
theorem wU16_any {S : Nat → Prop} {w : World} {wb : Nat} {bs : List UInt8} (h : Wr S w wb bs) (x : Int) (hx0 : 0 ≤ x) (hx1 : x < 65536) (hn : bs.length + 2 ≤ big) :
    Calls Try.prog 31 #[.pointer (some ⟨wb, 0, none⟩), .int .u16 x] w (PutOk S w wb (bs ++ b2 x)) := by
  have hx2 : x < 4294967296 := by omega
  go_enter Try.func31, Try.ntmps31
  go_wp2_with (go_at_call 51; refine (wput2 h x hx0 hx2 hn).mono ?_; rintro e w1 ⟨rfl, hr, hf⟩)
  go_ret
  exact ⟨rfl, hr, hf⟩

end Go.Proofs.Ythoppkklooomgaa