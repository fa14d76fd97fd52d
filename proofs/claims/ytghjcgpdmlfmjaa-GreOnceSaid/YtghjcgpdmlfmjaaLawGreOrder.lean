/- GreOrder, GreOnce: their walks. -/
import Derived.Test.YtghjcgpdmlfmjaaGreRef
namespace Go.Proofs.Ytghjcgpdmlfmjaa
open Go.RowKit
set_option linter.unusedVariables false

/-- One of two blocks. -/
def Two (a b : Nat) : Nat → Prop := fun k => k = a ∨ k = b

theorem accNext_lt {st : Option Nat} {x : Nat} (h : ∀ y, st = some y → y < 4294967296) (hx : x < 4294967296) : ∀ y, accNext st x = some y → y < 4294967296 := by
  intro y hy
  unfold accNext at hy
  split at hy
  · cases hy; exact hx
  · exact h y hy
theorem Od.of {S : Nat → Prop} {w w' : World} {ob : Nat} {st : Option Nat} (h : Od w ob st) (hf : Fr S w w') (ho : ¬ S ob) (hs : ∀ k, S k → ∀ cs : Array Value, w.heap[k]? ≠ some (.cells cs 22 (0, 0))) : Od w' ob st := by
  cases st with
  | none => exact hf.heap h ho
  | some x => obtain ⟨lb, h1, h2, h3⟩ := h; exact ⟨lb, hf.heap h1 ho, hf.heap h2 (fun hl => hs _ hl _ h2), h3⟩

theorem Ro.no {w w' : World} {rb : Nat} {st : Option Nat} (h : Ro w rb st) (hf : Fr No w w') : Ro w' rb st := hf.heap h (fun h => h)

/-- What holds at each round: both orders stand alike. -/
def GI (w2 : World) (oa ob n : Nat) (t : Value) (wr : World) : Prop :=
  ∃ (k : Nat) (st : Option Nat), t = .int .i64 k ∧ k ≤ n ∧ k ≤ 200 ∧ (∀ y, st = some y → y < 4294967296) ∧ Od wr oa st ∧ Ro wr ob st ∧ Fr (Two oa ob) w2 wr

set_option maxHeartbeats 1600000 in
set_option maxRecDepth 100000 in
theorem GreOrder_walk {w : World} {ao : Option Addr} {n cap : Nat} {us : List Nat} (hu : Us w ao n cap us) :
    Calls Try.prog 10 #[.slice ao n cap] w (LawOk w) := by
  have hle := hu.2.1.le
  have hcc := hu.2.1.capLe
  have HU := Lib.hid hu
  clear hu
  go_enter Try.func10, Try.ntmps10
  go_wp2_with (go_at_call 18; refine (shown13_any _).mono ?_; rintro e w1 ⟨rfl, f1⟩; have F1 := Lib.hid f1; clear f1)
  have fa := ((Fr.refl No w1).alloc (.cells #[.pointer none] 49)).alloc (.cells #[.bool false, .int .u32 0] 52)
  have e1 : (w1.alloc (.cells #[.pointer none] 49)).heap.size = w1.heap.size + 1 := by simp
  have O2 : Hid (Od ((w1.alloc (.cells #[.pointer none] 49)).alloc (.cells #[.bool false, .int .u32 0] 52)) w1.heap.size none) :=
    Lib.hid (((Fr.refl No _).alloc _).heap (heap_alloc_new w1 _) (fun h => h))
  have R2 : Hid (Ro ((w1.alloc (.cells #[.pointer none] 49)).alloc (.cells #[.bool false, .int .u32 0] 52)) (w1.heap.size + 1) none) := by
    have := heap_alloc_new (w1.alloc (.cells #[.pointer none] 49)) (.cells #[.bool false, .int .u32 0] 52)
    rw [e1] at this
    exact Lib.hid this
  have F2 := Lib.hid (F1.out.then_no fa)
  obtain ⟨oa, hoa⟩ : ∃ oa, oa = w1.heap.size := ⟨_, rfl⟩
  have hoa1 : w.heap.size ≤ oa := by rw [hoa]; exact F1.out.size
  rw [← hoa] at O2 R2 ⊢
  obtain ⟨ob, hob⟩ : ∃ ob, ob = oa + 1 := ⟨_, rfl⟩
  have hob1 : oa < ob := by omega
  rw [← hob] at R2 ⊢
  generalize (w1.alloc (.cells #[.pointer none] 49)).alloc (.cells #[.bool false, .int .u32 0] 52) = w2 at *
  clear fa e1 F1 hoa hob
  go_loopw [6] (fun t wr => GI w2 oa ob n t wr) (fun t _ => n - (intOf t).toNat)
  case atStart => exact ⟨0, none, rfl, by omega, by omega, by simp, O2.out, R2.out, Fr.refl _ _⟩
  case round =>
    obtain ⟨k, st, rfl, hk, hk2, hst, ho, hr, hf⟩ := hrel
    have FR := Lib.hid (F2.out.then hf (by rintro i hi (rfl | rfl) <;> omega))
    by_cases hlt : k < n ∧ k < 200
    · obtain ⟨a, x, rfl, hx, hx2, hc⟩ := (HU.out.fr FR.out (Out.no _)).at k hlt.1
      have hlt1 := hlt.1
      have hlt2 := hlt.2
      have hbl : a.block < w.heap.size := by
        have := (HU.out).at k hlt.1
        obtain ⟨a', _, ha', _, _, hc'⟩ := this
        cases ha'
        have := World.block_lt_of_cell? w _ hc'
        rw [Addr.add_block] at this; exact this
      have OD := Lib.hid ho
      have RO := Lib.hid hr
      have HF := Lib.hid hf
      have HX := Lib.hid hx
      clear ho hr hf hx hlt O2 R2
      go_upto_region 7 with fail
      have hd := Fr.drew (Fr.refl No wr)
      have OD1 := Lib.hid (OD.out.no hd)
      have RO1 := Lib.hid (RO.out.no hd)
      go_cut [34] (fun s34 wc => s34 = .bool false ∧ Od wc oa (accNext st x) ∧ Ro wc ob (accNext st x) ∧ Fr (Two oa ob) wr wc)
      case first =>
        go_region_with (first
          | (go_at_call 22; refine (accept_any OD1.out hx2 hst).mono ?_; rintro e w5 ⟨rfl, o5, f5⟩; have hc5 := f5.cell (w := wr.drew) hc (by rw [Addr.add_block]; simp only [Is]; omega); have RO5 := Lib.hid (f5.heap RO1.out (by simp only [Is]; omega)); have OD5 := Lib.hid o5; have F5 := Lib.hid f5; clear o5 f5)
          | (go_at_call 23; refine (refAccept_any (st := st) RO5.out hx2 hst).mono ?_; rintro e w6 ⟨rfl, o6, f6⟩; have OD6 := Lib.hid (OD5.out.of f6 (by simp only [Is]; omega) (by rintro j rfl cs hcs; rw [RO5.out] at hcs; simp at hcs)); have RO6 := Lib.hid o6; have F6 := Lib.hid f6; clear o6 f6))
        all_goals (go_wp2_with fail)
        all_goals go_meet
        all_goals exact ⟨rfl, OD6.out, RO6.out, ((hd.of_no (S := Two oa ob)).then F5.out (fun i _ h => .inl h)).then F6.out (fun i _ h => .inr h)⟩
      case rest =>
        obtain ⟨rfl, o7, r7, f7⟩ := hcut
        have O7 := Lib.hid o7
        have R7 := Lib.hid r7
        have F7 := Lib.hid (HF.out.trans f7)
        clear o7 r7 f7 OD1 RO1 OD RO hd
        go_wp2_with fail
        go_roundw
        case rel => exact ⟨k + 1, accNext st x, by go_num, by omega, by omega, accNext_lt hst hx2, O7.out, R7.out, F7.out⟩
        case measure => simp [intOf]; omega
    · have hn : n ≤ k ∨ 200 ≤ k := by omega
      clear hlt ho hr hf
      rcases hn with h | h
      · go_wp2_with fail
        go_ret
        exact ⟨rfl, FR.out⟩
      · go_wp2_with fail
        all_goals go_ret
        all_goals exact ⟨rfl, FR.out⟩

end Go.Proofs.Ytghjcgpdmlfmjaa
