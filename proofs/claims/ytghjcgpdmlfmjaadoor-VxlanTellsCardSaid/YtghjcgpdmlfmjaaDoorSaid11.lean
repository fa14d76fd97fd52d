/- The statements' own 'said' (layer 11). -/
import Derived.Test.YtghjcgpdmlfmjaaDoorErrAs2
import Derived.Test.YtghjcgpdmlfmjaaDoorErrText
import Derived.Test.YtghjcgpdmlfmjaaDoorVx
namespace Go.Proofs.YtghjcgpdmlfmjaaDoor
open Go.RowKit
set_option linter.unusedVariables false

def SaidOk (w : World) (e : Ending) (w' : World) : Prop := e = .returned (.bool true) ∧ Fr No w w'
theorem said11_nil (inner : Bool) (w : World) : Calls Tryd.prog 11 #[.nilIface, .int .i64 0, .bool inner] w (SaidOk w) := by
  go_enter Tryd.func11, Tryd.ntmps11
  go_wp2
  go_ret
  exact ⟨rfl, Fr.refl _ _⟩
theorem said11_short (inner : Bool) : Short (vxlanS :: if inner = true then [octetsS] else []) := by
  refine ⟨fun s hs => ?_, by cases inner <;> simp⟩
  cases inner <;> simp at hs
  · subst hs; decide
  · rcases hs with rfl | rfl <;> decide
theorem said11_txt1 (n : Nat) : txt [vxlanS, octetsS] n = (⟨#[118, 120, 108, 97, 110, 58, 32, 111, 99, 116, 101, 116, 115, 58, 32]⟩ : ByteArray) ++ (errorS ++ itoaS n) := by
  simp only [txt]
  rw [← ByteArray.append_assoc]
  congr 1
theorem said11_txt0 (n : Nat) : txt [vxlanS] n = (⟨#[118, 120, 108, 97, 110, 58, 32]⟩ : ByteArray) ++ (errorS ++ itoaS n) := by
  simp only [txt]
  congr 1

set_option maxRecDepth 100000 in
theorem said11_err {w : World} {p : Value} {n : Nat} {inner : Bool} (hg : EG w) (h : Err w (.iface 83 p) (vxlanS :: if inner = true then [octetsS] else []) (n : Int)) (hn : Nr n) (h0 : n ≠ 0) :
    Calls Tryd.prog 11 #[.iface 83 p, .int .i64 n, .bool inner] w (SaidOk w) := by
  have H := Lib.hid h
  have HG := Lib.hid hg
  have HN := Lib.hid hn
  have hmW := methodErrorW
  have hi0 : ¬ ((n : Int) = 0) := by omega
  have hsz : (errorS ++ itoaS n).size ≤ 8 := by
    have h1 := itoaS_size n hn
    have h2 : errorS.size = 6 := rfl
    rw [ByteArray.size_append]; omega
  obtain ⟨b, rfl⟩ : ∃ b, p = .pointer (some ⟨b, 0, none⟩) := by cases h; exact ⟨_, rfl⟩
  clear h hg hn
  cases inner with
  | true =>
    replace H : Hid (Err w (.iface 83 (.pointer (some ⟨b, 0, none⟩))) [vxlanS, octetsS] (n : Int)) := H
    have hsh : Short [vxlanS, octetsS] := said11_short true
    have HSH := Lib.hid hsh
    clear hsh
    have ht := said11_txt1 n
    generalize hE : errorS ++ itoaS n = E at *
    have HE := Lib.hid hE
    have HT := Lib.hid ht
    clear hE ht
    go_enter Tryd.func11, Tryd.ntmps11
    go_wp2_with (first
      | (go_at_call 20; refine (errIs_any H.out n).mono ?_; rw [show ((n : Int) == (n : Int)) = true from beq_self_eq_true _]; rintro e w1 ⟨rfl, rfl⟩)
      | (go_at_call 33; refine (code_any HG.out H.out).mono ?_; rintro e w2 ⟨rfl, f2⟩; have F2 := Lib.hid f2; clear f2)
      | (go_at_call 93; refine (wrong_text (H.out.no F2.out) HN.out HSH.out).mono ?_; rw [HT.out]; rintro e w3 ⟨rfl, m3, rfl⟩)
      | (go_at_call 34; refine (errno_Error_any n HN.out _).mono ?_; rw [HE.out]; rintro e w4 ⟨rfl, rfl⟩))
    go_ret
    exact ⟨rfl, F2.out.drewN _⟩
  | false =>
    replace H : Hid (Err w (.iface 83 (.pointer (some ⟨b, 0, none⟩))) [vxlanS] (n : Int)) := H
    have hsh : Short [vxlanS] := said11_short false
    have HSH := Lib.hid hsh
    clear hsh
    have ht := said11_txt0 n
    generalize hE : errorS ++ itoaS n = E at *
    have HE := Lib.hid hE
    have HT := Lib.hid ht
    clear hE ht
    go_enter Tryd.func11, Tryd.ntmps11
    go_wp2_with (first
      | (go_at_call 20; refine (errIs_any H.out n).mono ?_; rw [show ((n : Int) == (n : Int)) = true from beq_self_eq_true _]; rintro e w1 ⟨rfl, rfl⟩)
      | (go_at_call 33; refine (code_any HG.out H.out).mono ?_; rintro e w2 ⟨rfl, f2⟩; have F2 := Lib.hid f2; clear f2)
      | (go_at_call 93; refine (wrong_text (H.out.no F2.out) HN.out HSH.out).mono ?_; rw [HT.out]; rintro e w3 ⟨rfl, m3, rfl⟩)
      | (go_at_call 34; refine (errno_Error_any n HN.out _).mono ?_; rw [HE.out]; rintro e w4 ⟨rfl, rfl⟩))
    go_ret
    exact ⟨rfl, F2.out.drewN _⟩

end Go.Proofs.YtghjcgpdmlfmjaaDoor
