/- Errors: 'Err w v ls n': v is an error that wraps the number n, by layers ls (the outermost first). api.Wrap, octets.wrong. -/
import Derived.Test.YthoppkklooomgaaBase
namespace Go.Proofs.Ythoppkklooomgaa
open Go.RowKit
set_option linter.unusedVariables false
inductive Err (w : World) : Value → List ByteArray → Int → Prop
  | num (n : Int) : Err w (.iface 32 (.int .i64 n)) [] n
  | wrap {b : Nat} {s : ByteArray} {v : Value} {ls : List ByteArray} {n : Int} (h : w.heap[b]? = some (.cells #[.string s, v] 109 (0, 0))) (hv : Err w v ls n) :
      Err w (.iface 107 (.pointer (some ⟨b, 0, none⟩))) (s :: ls) n

theorem Err.no {w w' : World} {v : Value} {ls : List ByteArray} {n : Int} (h : Err w v ls n) (hf : Fr No w w') : Err w' v ls n := by
  induction h with
  | num n => exact .num n
  | wrap h _ ih => exact .wrap (hf.heap h (fun h => h)) ih
theorem Err.held {w : World} {v : Value} {ls : List ByteArray} {n : Int} (h : Err w v ls n) : ∃ t x, v = .iface t x := by
  cases h with
  | num n => exact ⟨_, _, rfl⟩
  | wrap h _ => exact ⟨_, _, rfl⟩
def octetsS : ByteArray := ⟨#[111, 99, 116, 101, 116, 115]⟩

theorem wrap_nil (s : ByteArray) (w : World) : Calls Try.prog 23 #[.string s, .nilIface] w fun e w' => e = .returned .nilIface ∧ w = w' := by
  go_enter Try.func23, Try.ntmps23
  go_wp2
  go_ret
  exact ⟨rfl, rfl⟩

theorem wrap_some (s : ByteArray) (t : TypeId) (v : Value) (w : World) :
    Calls Try.prog 23 #[.string s, .iface t v] w fun e w' => e = .returned (.iface 107 (.pointer (some ⟨w.heap.size, 0, none⟩))) ∧ w' = w.alloc (.cells #[.string s, .iface t v] 109) := by
  go_enter Try.func23, Try.ntmps23
  go_wp2
  go_ret
  exact ⟨rfl, rfl⟩

/-- An error comes out wrapped: what a call that makes an error answers. -/
def IsErr (w : World) (ls : List ByteArray) (n : Int) (e : Ending) (w' : World) : Prop := ∃ b, e = .returned (.iface 107 (.pointer (some ⟨b, 0, none⟩))) ∧ Err w' (.iface 107 (.pointer (some ⟨b, 0, none⟩))) ls n ∧ Fr No w w'

theorem wrap_err (s : ByteArray) {w : World} {v : Value} {ls : List ByteArray} {n : Int} (h : Err w v ls n) : Calls Try.prog 23 #[.string s, v] w (IsErr w (s :: ls) n) := by
  obtain ⟨t, x, rfl⟩ := h.held
  refine (wrap_some s t x w).mono ?_
  rintro e w' ⟨rfl, rfl⟩
  exact ⟨_, rfl, .wrap (heap_alloc_new w _) (h.no ((Fr.refl _ _).alloc _)), (Fr.refl _ _).alloc _⟩

theorem owrong_any (n : Int) (w : World) : Calls Try.prog 70 #[.int .i64 n] w (IsErr w [octetsS] n) := by
  go_enter Try.func70, Try.ntmps70
  go_wp2_with (go_at_call 23; refine (wrap_err _ (Err.num n)).mono ?_; rintro e w' ⟨b, rfl, he, hf⟩)
  go_ret
  exact ⟨b, rfl, he, hf⟩

end Go.Proofs.Ythoppkklooomgaa