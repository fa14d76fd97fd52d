/- RouteCuts: its walk. -/
import Derived.Test.YtapiaaffnhmmiaaCutLaw
import Derived.Test.YtapiaaffnhmmiaaRt7
namespace Go.Proofs.Ytapiaaffnhmmiaa
open Go.RowKit
set_option linter.unusedVariables false

theorem rtCut_eq {ip b x : Int} (w : World) (h0 : 0 ≤ ip) (h1 : ip < 4294967296) (hx : cutN ip b = x) : Calls Try.prog 19 #[.int .u32 ip, .int .i64 b] w fun e w' => e = .returned (.int .u32 x) ∧ w = w' := by
  rw [← hx]; exact rtCut_any w h0 h1

set_option maxRecDepth 100000 in
theorem RouteCuts_walk (ip a b : Int) (h0 : 0 ≤ ip) (h1 : ip < 4294967296) (w : World) : Calls Try.prog 6 #[.int .u32 ip, .int .i64 a, .int .i64 b] w (ShownP w) := by
  obtain ⟨x, hx⟩ : ∃ x, cutN ip a = x := ⟨_, rfl⟩
  obtain ⟨y, hy⟩ : ∃ y, cutN x b = y := ⟨_, rfl⟩
  have hxb := cutN_bd ip a h0 h1
  have hyb := cutN_bd x b (hx ▸ hxb.1) (hx ▸ hxb.2)
  have hl := cutN_le ip a h0
  have hl2 := cutN_le x b (hx ▸ hxb.1)
  have hm : cutN ip (min a b) = y := by rw [← hy, ← hx, cutN_two]
  have hy2 : cutN y (min a b) = y := by rw [← hm, cutN_self]
  rw [hx] at hxb hl
  rw [hy] at hyb hl2
  have h32 := cutN_32 ip 32 (by omega)
  have hz := cutN_0 ip h0 h1
  have X := Lib.hid hx
  have Y := Lib.hid hy
  have M := Lib.hid hm
  have Y2 := Lib.hid hy2
  have H32 := Lib.hid h32
  have HZ := Lib.hid hz
  have hyip : y ≤ ip := by omega
  clear hx hy hm hy2 h32 hz
  go_enter Try.func6, Try.ntmps6
  go_wp2_with (go_at_call 9; refine (l8shown_any _).mono ?_; rintro e w1 ⟨rfl, f1⟩; have F1 := Lib.hid f1; clear f1)
  refine (rtCut_eq _ h0 h1 X.out).mono ?_
  rintro e w2 ⟨rfl, rfl⟩
  go_wp2_with fail
  refine (rtCut_eq _ (by omega) (by omega) Y.out).mono ?_
  rintro e w2 ⟨rfl, rfl⟩
  go_wp2_with fail
  refine (rtCut_eq _ h0 h1 M.out).mono ?_
  rintro e w2 ⟨rfl, rfl⟩
  go_wp2_with fail
  refine (rtCut_eq _ h0 h1 H32.out).mono ?_
  rintro e w2 ⟨rfl, rfl⟩
  go_wp2_with fail
  refine (rtCut_eq _ h0 h1 HZ.out).mono ?_
  rintro e w2 ⟨rfl, rfl⟩
  go_wp2_with fail
  refine (rtCut_eq _ (by omega) (by omega) Y2.out).mono ?_
  rintro e w2 ⟨rfl, rfl⟩
  go_wp2_with fail
  go_ret
  exact ⟨rfl, F1.out⟩
end Go.Proofs.Ytapiaaffnhmmiaa
