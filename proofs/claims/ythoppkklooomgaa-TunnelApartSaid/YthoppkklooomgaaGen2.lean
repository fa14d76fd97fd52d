/- geneve: Encap. -/
import Derived.Test.YthoppkklooomgaaGen1
import Derived.Deep.RegionHeld3
import Derived.Test.YthoppkklooomgaaVx
namespace Go.Proofs.Ythoppkklooomgaa
open Go.RowKit
set_option linter.unusedVariables false
/-- An option as bytes; all of them. -/
def optB (o : Opt) : List UInt8 := b2 o.cls ++ [o.typ] ++ [u8 (o.b.length / 4)] ++ o.b
def optsB : List Opt → List UInt8
  | [] => []
  | o :: r => optB o ++ optsB r
theorem optsB_snoc (l : List Opt) (o : Opt) : optsB (l ++ [o]) = optsB l ++ optB o := by
  induction l with
  | nil => simp [optsB]
  | cons x l ih => simp [optsB, ih]
theorem optB_length (o : Opt) : (optB o).length = 4 + o.b.length := by simp [optB, b2]; omega
theorem optsB_length (l : List Opt) : (optsB l).length = osum l := by
  induction l with
  | nil => rfl
  | cons x l ih => simp [optsB, osum, ih, optB_length]
def gnOut (id : Int) (os : List Opt) (fs : List UInt8) : List UInt8 := [u8 (osum os / 4)] ++ [u8 (gflag (anyCrit os))] ++ b2 25944 ++ b4 (id * 256) ++ optsB os ++ fs

theorem gnEncap_id {w : World} {v : Value} {ao : Option Addr} {n cap : Nat} (id : Int) (hi : 16777216 ≤ id) (hi2 : id < 4294967296) :
    Calls Try.prog 15 #[.int .u32 id, v, .slice ao n cap] w (BytesNo w [geneveS] 1) := by
  go_enter Try.func15, Try.ntmps15
  go_wp2_with (go_at_call 23; refine (wrap_err _ (Err.num 1)).mono ?_; rintro e w1 ⟨b, rfl, he, hf⟩)
  go_ret2
  exact ⟨b, rfl, he, hf⟩
theorem gnEncap_right {w : World} {oo : Option Addr} {on oc : Nat} {os : List Opt} {ao : Option Addr} {n cap : Nat} (id : Int) (hi : id < 16777216) (ho : Rs w oo on oc os) (hon : on ≤ 1000) {c : Int} (hc : rightN os = c) (hc0 : c ≠ 0) :
    Calls Try.prog 15 #[.int .u32 id, .slice oo on oc, .slice ao n cap] w (BytesNo w [geneveS] c) := by
  have HC := Lib.hid hc
  have HZ := Lib.hid hc0
  clear hc hc0
  go_enter Try.func15, Try.ntmps15
  go_wp2_with fail
  refine (right_any ho hon).mono ?_
  rw [HC.out]
  rintro e w1 (⟨h0, -, -⟩ | ⟨-, b, rfl, he, hf⟩)
  · exact absurd h0 HZ.out
  go_wp2_with fail
  go_ret2
  exact ⟨b, rfl, he, hf⟩
theorem gnEncap_size {w : World} {oo : Option Addr} {on oc : Nat} {os : List Opt} {ao : Option Addr} {n cap : Nat} (id : Int) (hi : id < 16777216) (ho : Rs w oo on oc os) (hon : on ≤ 1000) (hc : rightN os = 0) (code : Int) (h : n < 14 ∧ code = 2 ∨ 9000 < n ∧ code = 7) :
    Calls Try.prog 15 #[.int .u32 id, .slice oo on oc, .slice ao n cap] w (BytesNo w [geneveS] code) := by
  have HC := Lib.hid hc
  have HZ := Lib.hid h
  clear hc h
  go_enter Try.func15, Try.ntmps15
  go_wp2_with fail
  refine (right_any ho hon).mono ?_
  rw [HC.out]
  rintro e w1 (⟨h0, rfl, hf⟩ | ⟨h0, -⟩)
  rotate_left
  · exact absurd rfl h0
  have F1 := Lib.hid hf
  clear h0 hf
  go_wp2_with fail
  refine (gnSize_no ao n cap code HZ.out _).mono ?_
  rintro e w2 ⟨b, rfl, he, hf⟩
  have HE := Lib.hid he
  have F2 := Lib.hid (F1.out.then_no hf)
  clear he hf
  go_wp2_with fail
  go_ret2
  exact ⟨b, rfl, HE.out, F2.out⟩

theorem Wr.at_new {B : Nat} {w : World} {wb : Nat} {bs : List UInt8} (h : Wr (Up B) w wb bs) (o : Obj) {x : Nat} (hx : x = w.heap.size) : Wr (fun k => B ≤ k ∧ k ≠ x) (w.alloc o) wb bs := by
  obtain ⟨ao, n, cap, h⟩ := h
  subst hx
  refine ⟨ao, n, cap, (((Fr.refl No w).alloc o).heap h.heap (fun h => h)), h.ob.no ((Fr.refl _ _).alloc _), h.out, fun a ha => ⟨h.up a ha, ?_⟩, ⟨h.upw, ?_⟩, fun k hk => ⟨h.fresh k (by simp at hk; omega), by simp at hk; omega⟩⟩
  · have := h.ob.2.lt a ha; omega
  · have := lt_of_heap h.heap; omega
theorem Wr.mono {S S' : Nat → Prop} {w : World} {wb : Nat} {bs : List UInt8} (h : Wr S w wb bs) (hs : ∀ k, S k → S' k) : Wr S' w wb bs := by
  obtain ⟨ao, n, cap, h⟩ := h
  exact ⟨ao, n, cap, h.heap, h.ob, h.out, fun a ha => hs _ (h.up a ha), hs _ h.upw, fun k hk => hs _ (h.fresh k hk)⟩

end Go.Proofs.Ythoppkklooomgaa