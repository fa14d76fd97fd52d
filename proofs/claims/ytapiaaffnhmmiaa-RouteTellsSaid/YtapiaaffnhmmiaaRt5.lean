/- route: maps.Values over a table's map, as an iterator. -/
import Derived.Test.YtapiaaffnhmmiaaMpIn
import Derived.Test.YtapiaaffnhmmiaaRt4
namespace Go.Proofs.Ytapiaaffnhmmiaa
open Go.RowKit Go.Shelf
set_option linter.unusedVariables false
set_option linter.unusedSimpArgs false
attribute [local go_sem] Oper.semAt_some

set_option maxRecDepth 100000 in
set_option maxHeartbeats 1000000 in
theorem rtValues1_in (Fe : Fence) (n : Nat) (h8 : Fe.fn 32) (hro : Fe.round = none) (hn : 1 ≤ n) (l Bm mb : Nat) (m : List ((Int × Int) × Rt)) (J Jx : List Rt → World → Prop)
    (hY : ∀ pre x W, J pre W → pre.length < m.length → YieldAt Fe (n - 1) Try.prog l #[evR x] W fun e W' =>
      (e = .returned (.bool true) ∧ J (pre ++ [x]) W' ∧ KeepsWalks W W') ∨ (e = .returned (.bool false) ∧ Jx (pre ++ [x]) W'))
    (W : World) (hJ : AbidesFrom W.heap.size J) (hm : W.cell? ⟨Bm, 0, none⟩ = some (.map (some mb))) (hmp : MpR W mb m) (h0 : J [] W) :
    CallsIn Fe n Try.prog 32 #[.func (.yield l) #[] #[], .pointer (some ⟨Bm, 0, none⟩)] W fun e W' => (∃ v, e = .returned v) ∧
      ((∃ xs, xs.Perm (m.map (·.2)) ∧ J xs W') ∨ (∃ pre, True ∧ Jx pre W')) := by
  refine callsIn_of_wp Try.func32 rfl h8 ?_ hro
  simp only [Try.ntmps32, List.size_toArray, List.length_cons, List.length_nil, Nat.reduceAdd, Nat.reduceSub, Array.replicate_succ, Array.replicate_zero, List.push_toArray, List.append_toArray, List.nil_append, List.cons_append]
  gi_wp2_with (first
    | (gi_at_range; refine wpListIn_range_mp rfl _ 56 rfl Try.underlying56 rfl hmp ?_; intro w0 hrg0 hg0 hs0)
    | gi_in)
  go_frame
  gi_loopw [4] (fun _ wr => ∃ (left ps : List ((Int × Int) × Rt)), Rg okK ekK evR wr mb W.heap.size m left ∧ (ps ++ left).Perm m ∧ J (ps.map (·.2)) wr)
    (fun _ wr => wr.rangeLeft mb W.heap.size)
  case atStart =>
    exact ⟨_, [], hrg0, by simp, hJ [] W w0 none h0 hg0 (fun r e => by cases e)⟩
  case round =>
    obtain ⟨left, ps, hrg, hpm, hJs⟩ := hrel
    gi_wp2_with (first
      | (gi_at_next; refine wpListIn_next_mp rfl _ rfl keR rfl hrg ?_ ?_)
      | gi_in)
    · intro hl0
      gi_wp2
      go_end0
      subst hl0
      exact ⟨⟨_, rfl⟩, .inl ⟨_, (by simpa using hpm.map (·.2)), hJs⟩⟩
    · intro k1 k2 v w2 hp hrg2 hg2 hs2 hen
      obtain ⟨a, b, c, d⟩ := v
      simp only [ekK, evR] at hen ⊢
      have hlen : ps.length < m.length := by
        have h1 := hpm.length_eq
        have h2 : 0 < left.length := List.length_pos_of_mem hp
        simp at h1; omega
      have hpm2 : ((ps ++ [((k1, k2), (⟨a, b, c, d⟩ : Rt))]) ++ mdel left (k1, k2)).Perm m := by
        refine List.Perm.trans ?_ hpm
        rw [List.append_assoc]
        exact (perm_mdel hrg.ndl hp).symm.append_left ps
      have hlt : (mdel left (k1, k2)).length < left.length := by
        have := (perm_mdel hrg.ndl hp).length_eq
        simp at this; omega
      have hJ2 : J (ps.map (·.2)) w2 := hJ _ wr w2 (some W.heap.size) hJs hg2 (fun r e => by cases e; exact ⟨Nat.le_refl _, hrg.iter⟩)
      have hJ3 : J (ps.map (·.2)) (w2.alloc (.cells #[.int .u32 a, .int .i64 b, .int .u32 c, .int .i64 d] 33)) := hJ _ _ _ none hJ2 (World.grownBy_alloc w2 _ none) (fun r e => by cases e)
      have hrg3 : Rg okK ekK evR (w2.alloc (.cells #[.int .u32 a, .int .i64 b, .int .u32 c, .int .i64 d] 33)) mb W.heap.size m (mdel left (k1, k2)) := hrg2.fr ((Fr.refl No _).alloc _) (fun h => h) (fun h => h)
      obtain ⟨fn, tmps, assign, body, hy, hR⟩ := hY (ps.map (·.2)) ⟨a, b, c, d⟩ _ hJ3 (by simpa using hlen)
      simp only [evR] at hy
      have HP := Lib.hid hpm2
      have HR := Lib.hid hrg3
      have HL := Lib.hid hlt
      have HRG := Lib.hid hrg
      clear hs2 hpm hpm2 hrg3 hrg2 hJ2 hJ3 hlt hlen hrg hp
      gi_wp2
      refine hR.mono ?_
      rintro e W3 (⟨rfl, hJ3, hk3⟩ | ⟨rfl, hJx3⟩)
      · gi_wp2
        have hrg4 := HR.out.kept hk3
        go_roundw
        case rel => exact ⟨_, ps ++ [((k1, k2), ⟨a, b, c, d⟩)], hrg4, HP.out, by simpa using hJ3⟩
        case measure => rw [hrg4.left_eq, HRG.out.left_eq]; exact HL.out
      · gi_wp2
        refine bodyPost_ret (results_none rfl _ _ _) rfl ?_
        exact ⟨⟨_, rfl⟩, .inr ⟨_, trivial, hJx3⟩⟩

/-- maps.Values hands back a value that gives the routes. -/
theorem rtValues_in (Fe : Fence) (n : Nat) (hf : Fe.fn 25) (hro : Fe.round = none) (mb : Option Nat) (w : World) :
    CallsIn Fe n Try.prog 25 #[.map mb] w fun e w' => e = .returned (.func (.func 32) #[] #[.pointer (some ⟨w.heap.size, 0, none⟩)]) ∧ w' = w.alloc (.cells #[.map mb] 56) := by
  refine callsIn_of_wp Try.func25 rfl hf ?_ hro
  simp only [Try.ntmps25, List.size_toArray, List.length_cons, List.length_nil, Nat.reduceAdd, Nat.reduceSub, Array.replicate_succ, Array.replicate_zero, List.push_toArray, List.append_toArray, List.nil_append, List.cons_append]
  gi_wp2
  go_ret
  exact ⟨rfl, rfl⟩
theorem rtValues_stops (Fe : Fence) (n : Nat) (h7 : Fe.fn 32) (hro : Fe.round = none) (hn : 1 ≤ n) (Bm mb : Nat) (m : List ((Int × Int) × Rt)) (w : World) (hBm : Bm < w.heap.size)
    (hm : w.cell? ⟨Bm, 0, none⟩ = some (.map (some mb))) (hmp : MpR w mb m) :
    SeqStopsK Fe n Try.prog 32 #[.pointer (some ⟨Bm, 0, none⟩)] (fun x => #[evR x]) KeepsWalks (fun xs => xs.Perm (m.map (·.2))) (fun _ => True) m.length w := fun l J Jx W hW hJ _ hY h0 =>
  rtValues1_in Fe n h7 hro hn l Bm mb m J Jx hY W hJ ((hW.cell (p := ⟨Bm, 0, none⟩) hBm).trans hm) (hmp.below hW hmp.lt) h0

end Go.Proofs.Ytapiaaffnhmmiaa
