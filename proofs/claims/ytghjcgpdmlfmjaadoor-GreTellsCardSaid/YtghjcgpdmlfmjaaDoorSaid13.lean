/- The statements' own 'said' (layer 13). -/
import Derived.Test.YtghjcgpdmlfmjaaDoorErrAs2
import Derived.Test.YtghjcgpdmlfmjaaDoorErrText
import Derived.Test.YtghjcgpdmlfmjaaDoorGre
namespace Go.Proofs.YtghjcgpdmlfmjaaDoor
open Go.RowKit
set_option linter.unusedVariables false

def SaidOk (w : World) (e : Ending) (w' : World) : Prop := e = .returned (.bool true) ∧ Fr No w w'
theorem said13_nil (inner : Bool) (w : World) : Calls Tryd.prog 18 #[.nilIface, .int .i64 0, .bool inner] w (SaidOk w) := by
  go_enter Tryd.func18, Tryd.ntmps18
  go_wp2
  go_ret
  exact ⟨rfl, Fr.refl _ _⟩
theorem said13_short (inner : Bool) : Short (greS :: if inner = true then [octetsS] else []) := by
  refine ⟨fun s hs => ?_, by cases inner <;> simp⟩
  cases inner <;> simp at hs
  · subst hs; decide
  · rcases hs with rfl | rfl <;> decide
theorem said13_txt1 (n : Nat) : txt [greS, octetsS] n = (⟨#[103, 114, 101, 58, 32, 111, 99, 116, 101, 116, 115, 58, 32]⟩ : ByteArray) ++ (errorS ++ itoaS n) := by
  simp only [txt]
  rw [← ByteArray.append_assoc]
  congr 1
theorem said13_txt0 (n : Nat) : txt [greS] n = (⟨#[103, 114, 101, 58, 32]⟩ : ByteArray) ++ (errorS ++ itoaS n) := by
  simp only [txt]
  congr 1

set_option maxRecDepth 100000 in
theorem said13_err {w : World} {p : Value} {n : Nat} {inner : Bool} (hg : EG w) (h : Err w (.iface 83 p) (greS :: if inner = true then [octetsS] else []) (n : Int)) (hn : Nr n) (h0 : n ≠ 0) :
    Calls Tryd.prog 18 #[.iface 83 p, .int .i64 n, .bool inner] w (SaidOk w) := by
  have H := Lib.hid h
  have HG := Lib.hid hg
  have HN := Lib.hid hn
  have hmW := methodErrorW
  have hi0 : ¬ ((n : Int) = 0) := by omega
  have hsz : (errorS ++ itoaS n).size ≤ 8 := by
    have h1 := itoaS_size n hn
    have h2 : errorS.size = 6 := rfl
    rw [ByteArray.size_append]; omega
  obtain ⟨b, rfl⟩ : ∃ b, p = .pointer (some ⟨b, 0, none⟩) := by cases h; exact ⟨_, rfl⟩
  clear h hg hn
  cases inner with
  | true =>
    replace H : Hid (Err w (.iface 83 (.pointer (some ⟨b, 0, none⟩))) [greS, octetsS] (n : Int)) := H
    have hsh : Short [greS, octetsS] := said13_short true
    have HSH := Lib.hid hsh
    clear hsh
    have ht := said13_txt1 n
    generalize hE : errorS ++ itoaS n = E at *
    have HE := Lib.hid hE
    have HT := Lib.hid ht
    clear hE ht
    go_enter Tryd.func18, Tryd.ntmps18
    go_wp2_with (first
      | (go_at_call 20; refine (errIs_any H.out n).mono ?_; rw [show ((n : Int) == (n : Int)) = true from beq_self_eq_true _]; rintro e w1 ⟨rfl, rfl⟩)
      | (go_at_call 33; refine (code_any HG.out H.out).mono ?_; rintro e w2 ⟨rfl, f2⟩; have F2 := Lib.hid f2; clear f2)
      | (go_at_call 93; refine (wrong_text (H.out.no F2.out) HN.out HSH.out).mono ?_; rw [HT.out]; rintro e w3 ⟨rfl, m3, rfl⟩)
      | (go_at_call 34; refine (errno_Error_any n HN.out _).mono ?_; rw [HE.out]; rintro e w4 ⟨rfl, rfl⟩))
    go_ret
    exact ⟨rfl, F2.out.drewN _⟩
  | false =>
    replace H : Hid (Err w (.iface 83 (.pointer (some ⟨b, 0, none⟩))) [greS] (n : Int)) := H
    have hsh : Short [greS] := said13_short false
    have HSH := Lib.hid hsh
    clear hsh
    have ht := said13_txt0 n
    generalize hE : errorS ++ itoaS n = E at *
    have HE := Lib.hid hE
    have HT := Lib.hid ht
    clear hE ht
    go_enter Tryd.func18, Tryd.ntmps18
    go_wp2_with (first
      | (go_at_call 20; refine (errIs_any H.out n).mono ?_; rw [show ((n : Int) == (n : Int)) = true from beq_self_eq_true _]; rintro e w1 ⟨rfl, rfl⟩)
      | (go_at_call 33; refine (code_any HG.out H.out).mono ?_; rintro e w2 ⟨rfl, f2⟩; have F2 := Lib.hid f2; clear f2)
      | (go_at_call 93; refine (wrong_text (H.out.no F2.out) HN.out HSH.out).mono ?_; rw [HT.out]; rintro e w3 ⟨rfl, m3, rfl⟩)
      | (go_at_call 34; refine (errno_Error_any n HN.out _).mono ?_; rw [HE.out]; rintro e w4 ⟨rfl, rfl⟩))
    go_ret
    exact ⟨rfl, F2.out.drewN _⟩

end Go.Proofs.YtghjcgpdmlfmjaaDoor
