/- fdb: maps.Values over a base's map, as an iterator. -/
import Derived.Test.YticebdoiahadoaaMpIn
import Derived.Test.YticebdoiahadoaaFd14
namespace Go.Proofs.Yticebdoiahadoaa
open Go.RowKit Go.Shelf
set_option linter.unusedVariables false
set_option linter.unusedSimpArgs false
attribute [local go_sem] Oper.semAt_some

set_option maxRecDepth 100000 in
set_option maxHeartbeats 1000000 in
theorem fbValues1_in (Fe : Fence) (n : Nat) (h8 : Fe.fn 109) (hro : Fe.round = none) (hn : 1 ≤ n) (l Bm mb : Nat) (m : List (Mac × Nat)) (J Jx : List Nat → World → Prop)
    (hY : ∀ pre x W, J pre W → pre.length < m.length → YieldAt Fe (n - 1) Try.prog l #[evP x] W fun e W' =>
      (e = .returned (.bool true) ∧ J (pre ++ [x]) W' ∧ KeepsWalks W W') ∨ (e = .returned (.bool false) ∧ Jx (pre ++ [x]) W'))
    (W : World) (hJ : AbidesFrom W.heap.size J) (hm : W.cell? ⟨Bm, 0, none⟩ = some (.map (some mb))) (hmp : Mp okM evM evP W mb m) (h0 : J [] W) :
    CallsIn Fe n Try.prog 109 #[.func (.yield l) #[] #[], .pointer (some ⟨Bm, 0, none⟩)] W fun e W' => (∃ v, e = .returned v) ∧
      ((∃ xs, xs.Perm (m.map (·.2)) ∧ J xs W') ∨ (∃ pre, True ∧ Jx pre W')) := by
  refine callsIn_of_wp Try.func109 rfl h8 ?_ hro
  simp only [Try.ntmps109, List.size_toArray, List.length_cons, List.length_nil, Nat.reduceAdd, Nat.reduceSub, Array.replicate_succ, Array.replicate_zero, List.push_toArray, List.append_toArray, List.nil_append, List.cons_append]
  gi_wp2_with (first
    | (gi_at_range; refine wpListIn_range_mp rfl _ 87 rfl Try.underlying87 rfl hmp ?_; intro w0 hrg0 hg0 hs0)
    | gi_in)
  go_frame
  gi_loopw [4] (fun _ wr => ∃ (left ps : List (Mac × Nat)), Rg okM evM evP wr mb W.heap.size m left ∧ (ps ++ left).Perm m ∧ J (ps.map (·.2)) wr)
    (fun _ wr => wr.rangeLeft mb W.heap.size)
  case atStart =>
    exact ⟨_, [], hrg0, by simp, hJ [] W w0 none h0 hg0 (fun r e => by cases e)⟩
  case round =>
    obtain ⟨left, ps, hrg, hpm, hJs⟩ := hrel
    gi_wp2_with (first
      | (gi_at_next; refine wpListIn_next_mp rfl _ rfl keM rfl hrg ?_ ?_)
      | gi_in)
    · intro hl0
      gi_wp2
      go_end0
      subst hl0
      exact ⟨⟨_, rfl⟩, .inl ⟨_, (by simpa using hpm.map (·.2)), hJs⟩⟩
    · intro k v w2 hp hrg2 hg2 hs2 hen
      simp only [evM, evP] at hen ⊢
      have hlen : ps.length < m.length := by
        have h1 := hpm.length_eq
        have h2 : 0 < left.length := List.length_pos_of_mem hp
        simp at h1; omega
      have hpm2 : ((ps ++ [(k, v)]) ++ mdel left k).Perm m := by
        refine List.Perm.trans ?_ hpm
        rw [List.append_assoc]
        exact (perm_mdel hrg.ndl hp).symm.append_left ps
      have hlt : (mdel left k).length < left.length := by
        have := (perm_mdel hrg.ndl hp).length_eq
        simp at this; omega
      have hJ2 : J (ps.map (·.2)) w2 := hJ _ wr w2 (some W.heap.size) hJs hg2 (fun r e => by cases e; exact ⟨Nat.le_refl _, hrg.iter⟩)
      obtain ⟨fn, tmps, assign, body, hy, hR⟩ := hY (ps.map (·.2)) v _ hJ2 (by simpa using hlen)
      simp only [evP] at hy
      have HP := Lib.hid hpm2
      have HR := Lib.hid hrg2
      have HL := Lib.hid hlt
      have HRG := Lib.hid hrg
      clear hs2 hpm hpm2 hrg2 hJ2 hlt hlen hrg hp
      gi_wp2
      refine hR.mono ?_
      rintro e W3 (⟨rfl, hJ3, hk3⟩ | ⟨rfl, hJx3⟩)
      · gi_wp2
        have hrg4 := HR.out.kept hk3
        go_roundw
        case rel => exact ⟨_, ps ++ [(k, v)], hrg4, HP.out, by simpa using hJ3⟩
        case measure => rw [hrg4.left_eq, HRG.out.left_eq]; exact HL.out
      · gi_wp2
        refine bodyPost_ret (results_none rfl _ _ _) rfl ?_
        exact ⟨⟨_, rfl⟩, .inr ⟨_, trivial, hJx3⟩⟩

/-- maps.Values hands back a value that gives the pointers. -/
theorem fbValues_in (Fe : Fence) (n : Nat) (hf : Fe.fn 95) (hro : Fe.round = none) (mb : Option Nat) (w : World) :
    CallsIn Fe n Try.prog 95 #[.map mb] w fun e w' => e = .returned (.func (.func 109) #[] #[.pointer (some ⟨w.heap.size, 0, none⟩)]) ∧ w' = w.alloc (.cells #[.map mb] 87) := by
  refine callsIn_of_wp Try.func95 rfl hf ?_ hro
  simp only [Try.ntmps95, List.size_toArray, List.length_cons, List.length_nil, Nat.reduceAdd, Nat.reduceSub, Array.replicate_succ, Array.replicate_zero, List.push_toArray, List.append_toArray, List.nil_append, List.cons_append]
  gi_wp2
  go_ret
  exact ⟨rfl, rfl⟩
theorem fbValues_stops (Fe : Fence) (n : Nat) (h7 : Fe.fn 109) (hro : Fe.round = none) (hn : 1 ≤ n) (Bm mb : Nat) (m : List (Mac × Nat)) (w : World) (hBm : Bm < w.heap.size)
    (hm : w.cell? ⟨Bm, 0, none⟩ = some (.map (some mb))) (hmp : Mp okM evM evP w mb m) :
    SeqStopsK Fe n Try.prog 109 #[.pointer (some ⟨Bm, 0, none⟩)] (fun x => #[evP x]) KeepsWalks (fun xs => xs.Perm (m.map (·.2))) (fun _ => True) m.length w := fun l J Jx W hW hJ _ hY h0 =>
  fbValues1_in Fe n h7 hro hn l Bm mb m J Jx hY W hJ ((hW.cell (p := ⟨Bm, 0, none⟩) hBm).trans hm) (hmp.below hW hmp.lt) h0
end Go.Proofs.Yticebdoiahadoaa
