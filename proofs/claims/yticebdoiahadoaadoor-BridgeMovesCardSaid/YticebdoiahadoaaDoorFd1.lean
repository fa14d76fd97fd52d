/- fdb: MACs, entries, the map's keys. -/
import Derived.Test.YticebdoiahadoaaDoorBase
import Derived.Test.YticebdoiahadoaaDoorBits
import Derived.Test.YticebdoiahadoaaDoorMp
import Derived.Laws.BitsAllLaws
import Derived.DeepKeys4
import Derived.Deep.QuietTactic
import Derived.BigQuiet
namespace Go.Proofs.YticebdoiahadoaaDoor
open Go.RowKit
set_option linter.unusedVariables false
set_option linter.unusedSimpArgs false
theorem laidOutF : laidOutB Tryd.prog = true := by kernel_rfl
theorem typesF : ∃ d, Tryd.prog.types.size = d + 1 := ⟨Tryd.prog.types.size - 1, by kernel_rfl⟩

structure Mac where
  a : UInt8
  b : UInt8
  c : UInt8
  d : UInt8
  e : UInt8
  f : UInt8
deriving DecidableEq, Inhabited
def encM (m : Mac) : List Value := [byteV m.a, byteV m.b, byteV m.c, byteV m.d, byteV m.e, byteV m.f]
def evM (m : Mac) : Value := .agg #[byteV m.a, byteV m.b, byteV m.c, byteV m.d, byteV m.e, byteV m.f]
def okM (_ : Mac) : Prop := True
theorem keM : KE Tryd.prog 24 okM evM := by
  refine ⟨Go.Maps.Keyed.of_law (deep_law_laid laidOutF (m := 3) (by omega) (of_decide_eq_true (by kernel_rfl)) (by kernel_rfl) (by rw [Tryd.underlying24])), ?_, ?_⟩
  · rintro ⟨a, b, c, d, e, f⟩ -
    have hk : Tryd.prog.keyType 24 = true := by kernel_rfl
    have hf : (evM ⟨a, b, c, d, e, f⟩).formed Tryd.prog 24 = true := by
      have hc : Tryd.prog.cellsOf 24 = 6 := by kernel_rfl
      simp [Value.formed, evM, byteV, Tryd.underlying24, hc]
    have hl : ∃ ls, Tryd.prog.keyLits (Tryd.prog.types.size + 1) 24 (evM ⟨a, b, c, d, e, f⟩).cells.toList = some ls := by
      obtain ⟨n, hn⟩ := typesF
      have hc : Tryd.prog.cellsOf 24 = 6 := by kernel_rfl
      have hc1 : Tryd.prog.cellsOf 5 = 1 := by kernel_rfl
      have w1 : ∀ x : UInt8, (Lit.int .u8 (x.toNat : Int)).wf = true := fun x => WalkArith.wf_u8 ⟨by omega, by have := x.toNat_lt; omega⟩
      rw [hn]
      simp [evM, byteV, Value.cells, Program.keyLits, Tryd.underlying24, Tryd.underlying5, hc, hc1, w1, show List.range 6 = [0, 1, 2, 3, 4, 5] from rfl]
    obtain ⟨ls, hl⟩ := hl
    refine ⟨.string (keyBytes ls), ?_⟩
    unfold keyOf
    rw [Tryd.underlying24]
    simp only [hk, hf, Bool.and_self, if_true, hl, Option.map_some]
  · rintro ⟨a, b, c, d, e, f⟩ ⟨a', b', c', d', e', f'⟩ h
    simp [evM, byteV] at h
    simp only [Mac.mk.injEq]
    exact ⟨UInt8.toNat_inj.1 (by omega), UInt8.toNat_inj.1 (by omega), UInt8.toNat_inj.1 (by omega), UInt8.toNat_inj.1 (by omega), UInt8.toNat_inj.1 (by omega), UInt8.toNat_inj.1 (by omega)⟩
end Go.Proofs.YticebdoiahadoaaDoor