/- GreBack: what was put in comes out: its walk. -/
import Derived.Test.YtghjcgpdmlfmjaaSh13
import Derived.LaidEql
namespace Go.Proofs.Ytghjcgpdmlfmjaa
open Go.RowKit
set_option linter.unusedVariables false

/-- What a law answers. -/
def LawOk (w : World) (e : Ending) (w' : World) : Prop := e = .returned (.bool true) ∧ Fr No w w'

def hV (s k : Bool) (key : Int) (q : Bool) (seq : Int) : Value := .agg #[.bool s, .bool k, .int .u32 key, .bool q, .int .u32 seq]

/-- What the law holds while it goes on: its header, and what was put in. -/
def GB (w wc : World) (s k : Bool) (key : Nat) (q : Bool) (seq : Nat) (out : List UInt8) (g m c : Nat) : Prop :=
  wc.heap[w.heap.size]? = some (.cells #[.bool s, .bool k, .int .u32 key, .bool q, .int .u32 seq] 38 (0, 0)) ∧ OB wc 5 (some ⟨g, 0, none⟩) m c out ∧ Fr No w wc

theorem gBack_size {w : World} {ao : Option Addr} {n cap : Nat} (s k : Bool) (key : Int) (q : Bool) (seq : Int) (hn : n < 14 ∨ 9000 < n) (hle : n ≤ cap) (hcc : cap ≤ 9223372036854775807) :
    Calls Try.prog 7 #[.agg #[.bool s, .bool k, .int .u32 key, .bool q, .int .u32 seq], .slice ao n cap] w (LawOk w) := by
  obtain ⟨m, hm⟩ : ∃ m, m = min n 10000 := ⟨_, rfl⟩
  have hmn : m < 14 ∨ 9000 < m := by omega
  have HM := Lib.hid hm
  have X0 := Lib.hid (heap_alloc_new w (.cells #[.bool s, .bool k, .int .u32 key, .bool q, .int .u32 seq] 38))
  have F0 := Lib.hid ((Fr.refl No w).alloc (.cells #[.bool s, .bool k, .int .u32 key, .bool q, .int .u32 seq] 38))
  have key : ∀ (wx : World) (a : Option Addr) (c : Nat), ∃ j : Int, Calls Try.prog 20 #[.agg #[.bool s, .bool k, .int .u32 key, .bool q, .int .u32 seq], .slice a m c] wx (GNo wx [greS] j) := by
    intro wx a c
    rcases hmn with h | h
    · exact ⟨2, gEncap_short s k key q seq h⟩
    · exact ⟨7, gEncap_big s k key q seq h⟩
  have HK := Lib.hid key
  clear hm hn key
  go_enter Try.func7, Try.ntmps7
  go_wp2_with fail
  refine (shown13_any _).mono ?_
  rintro e w1 ⟨rfl, f1⟩
  have F1 := Lib.hid (F0.out.then_no f1)
  have X1 := Lib.hid (f1.heap X0.out (fun h => h))
  clear f1 X0 F0
  obtain ⟨c0, c1, c2, c3, c4⟩ := cells5 X1.out
  go_wp2_with (go_at_call 19; refine (few13_any _ _ _ hle hcc _).mono ?_; rw [← HM.out]; rintro e w2 ⟨rfl, rfl⟩)
  obtain ⟨j, hj⟩ := HK.out w1 ao cap
  refine hj.mono ?_
  clear hj
  rintro e w3 ⟨b, rfl, he, f3⟩
  have F3 := Lib.hid (F1.out.then_no f3)
  clear he f3 F1 X1
  rcases hmn with h | h
  · go_wp2_with fail
    go_ret
    exact ⟨rfl, F3.out⟩
  · go_wp2_with fail
    go_ret
    exact ⟨rfl, F3.out⟩

set_option maxRecDepth 100000 in
theorem gBack_ok {w : World} {ao : Option Addr} {n cap : Nat} {fs : List UInt8} (s k : Bool) (key : Nat) (q : Bool) (seq : Nat) (hk : key < 4294967296) (hq : seq < 4294967296) (hb : Bs w ao n cap fs) (h1 : 14 ≤ n) (h2 : n ≤ 9000) :
    Calls Try.prog 7 #[.agg #[.bool s, .bool k, .int .u32 key, .bool q, .int .u32 seq], .slice ao n cap] w (LawOk w) := by
  have hle := hb.2.le
  have hcc := hb.2.capLe
  have HB := Lib.hid hb
  have hm : min n 10000 = n := by omega
  have HM := Lib.hid hm
  have hN : fs.length = n := hb.1.symm
  have HN := Lib.hid hN
  have HO := Lib.hid (gDec_out s k q key seq hk hq fs (by omega) (by omega))
  clear hb hm hN
  have X0 := Lib.hid (heap_alloc_new w (.cells #[.bool s, .bool k, .int .u32 key, .bool q, .int .u32 seq] 38))
  have F0 := Lib.hid ((Fr.refl No w).alloc (.cells #[.bool s, .bool k, .int .u32 key, .bool q, .int .u32 seq] 38))
  have hcv := fun (wx : World) (a : Option Addr) (m c : Nat) (bs : List UInt8) (h : Bs wx a m c bs) => run_bytes_string (P := Try.prog) wx 23 9 5 h Try.underlying23 Try.underlying5 Try.underlying9
  have HCV := Lib.hid hcv
  clear hcv
  go_enter Try.func7, Try.ntmps7
  go_wp2_with fail
  refine (shown13_any _).mono ?_
  rintro e w1 ⟨rfl, f1⟩
  have F1 := Lib.hid (F0.out.then_no f1)
  have X1 := Lib.hid (f1.heap X0.out (fun h => h))
  clear f1 X0 F0
  obtain ⟨c0, c1, c2, c3, c4⟩ := cells5 X1.out
  go_wp2_with (go_at_call 19; refine (few13_any _ _ _ hle hcc _).mono ?_; rw [HM.out]; rintro e w2 ⟨rfl, rfl⟩)
  refine (gEncap_ok s k key q seq (by omega) (by omega) (by omega) (by omega) (HB.out.no F1.out) h1 h2 rfl).mono ?_
  rintro e w3 ⟨g, c, rfl, o3, f3, h3⟩
  have O3 := Lib.hid o3
  have F3 := Lib.hid (F1.out.then_no f3)
  have X3 := Lib.hid (f3.heap X1.out (fun h => h))
  have hg1 := lt_of_heap X1.out
  have hg : w.heap.size ≠ g := by omega
  clear o3 f3 h3 F1 X1 c0 c1 c2 c3 c4 hg1
  have hlh : greHead s k q + n ≤ 20000 := by have := greHead_le s k q; omega
  obtain ⟨c0, c1, c2, c3, c4⟩ := cells5 X3.out
  obtain ⟨z0, z1, z2, z3, z4⟩ := free5 X3.out
  go_upto_if 40 with fail
  go_cut [] (fun wc => GB w wc s k (if k then key else 0) q seq (greOut s k key q seq fs) g (greHead s k q + n) c)
  case first =>
    cases k
    · go_wp2_with fail
      go_meet
      case rel =>
        refine ⟨?_, O3.out.fr ((Fr.refl (Is w.heap.size) w3).setCell (p := ⟨w.heap.size, 2, none⟩) (.inl rfl) _) (by rintro a' ha' (hi : a'.block = w.heap.size); cases ha'; exact hg hi.symm), F3.out.setCell (p := ⟨w.heap.size, 2, none⟩) (.inr (Nat.le_refl _)) _⟩
        exact set_row X3.out 2 _ rfl
    · go_wp2_with fail
      go_meet
      case rel => exact ⟨X3.out, O3.out, F3.out⟩
  case rest =>
    obtain ⟨x4, o4, f4⟩ := hcut
    have X4 := Lib.hid x4
    have O4 := Lib.hid o4
    have F4 := Lib.hid f4
    clear x4 o4 f4 X3 O3 F3 c0 c1 c2 c3 c4 z0 z1 z2 z3 z4
    obtain ⟨c0, c1, c2, c3, c4⟩ := cells5 X4.out
    obtain ⟨z0, z1, z2, z3, z4⟩ := free5 X4.out
    go_upto_if 44 with fail
    obtain ⟨w4, hw4⟩ : ∃ w4, w4 = wc := ⟨_, rfl⟩
    go_cut [] (fun wc => GB w wc s k (if k then key else 0) q (if q then seq else 0) (greOut s k key q seq fs) g (greHead s k q + n) c)
    case first =>
      cases q
      · go_wp2_with fail
        go_meet
        case rel =>
          refine ⟨?_, O4.out.fr ((Fr.refl (Is w.heap.size) _).setCell (p := ⟨w.heap.size, 4, none⟩) (.inl rfl) _) (by rintro a' ha' (hi : a'.block = w.heap.size); cases ha'; exact hg hi.symm), F4.out.setCell (p := ⟨w.heap.size, 4, none⟩) (.inr (Nat.le_refl _)) _⟩
          exact set_row X4.out 4 _ rfl
      · go_wp2_with fail
        go_meet
        case rel => exact ⟨X4.out, O4.out, F4.out⟩
    case rest =>
      obtain ⟨x5, o5, f5⟩ := hcut
      have X5 := Lib.hid x5
      have O5 := Lib.hid o5
      have F5 := Lib.hid f5
      clear x5 o5 f5 X4 O4 F4 c0 c1 c2 c3 c4 z0 z1 z2 z3 z4
      obtain ⟨key', hkey⟩ : ∃ x, x = if k = true then key else 0 := ⟨_, rfl⟩
      obtain ⟨seq', hseq⟩ : ∃ x, x = if q = true then seq else 0 := ⟨_, rfl⟩
      rw [← hkey, ← hseq] at HO X5
      clear hkey hseq
      go_wp2_with fail
      refine (gDecap_any O5.out.bs hlh).mono ?_
      rintro e w6 hr
      obtain ⟨g6, c6, rfl, o6, f6, h6⟩ := hr.is HO.out
      have X6 := Lib.hid (f6.heap X5.out (fun h => h))
      have F6 := Lib.hid (F5.out.then_no f6)
      have fa := (Fr.refl No w6).alloc (.cells #[.bool s, .bool k, .int .u32 key', .bool q, .int .u32 seq'] 38)
      have s1 := HCV.out _ _ _ _ _ (o6.no fa).bs
      have s2 := HCV.out _ _ _ _ _ ((HB.out.no F6.out).no fa)
      have FA := Lib.hid fa
      clear hr o6 f6 h6 X5 O5 F5 fa
      obtain ⟨c0, c1, c2, c3, c4⟩ := cells5 X6.out
      have hx6 := lt_of_heap X6.out
      rw [HN.out] at s1 ⊢
      go_wp2_with fail
      go_ret
      exact ⟨rfl, F6.out.then_no FA.out⟩

theorem GreBack_walk {w : World} {ao : Option Addr} {n cap : Nat} {fs : List UInt8} (s k : Bool) (key : Nat) (q : Bool) (seq : Nat) (hk : key < 4294967296) (hq : seq < 4294967296) (hb : Bs w ao n cap fs) :
    Calls Try.prog 7 #[.agg #[.bool s, .bool k, .int .u32 key, .bool q, .int .u32 seq], .slice ao n cap] w (LawOk w) := by
  by_cases h2 : 14 ≤ n ∧ n ≤ 9000
  · exact gBack_ok s k key q seq hk hq hb h2.1 h2.2
  · exact gBack_size s k key q seq (by omega) hb.2.le hb.2.capLe

end Go.Proofs.Ytghjcgpdmlfmjaa
