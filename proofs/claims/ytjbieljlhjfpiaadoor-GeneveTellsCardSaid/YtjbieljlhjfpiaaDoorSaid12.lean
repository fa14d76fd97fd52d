/- The statements' own 'said' (layer 12). -/
import Derived.Test.YtjbieljlhjfpiaaDoorErrAs2
import Derived.Test.YtjbieljlhjfpiaaDoorErrText
import Derived.Test.YtjbieljlhjfpiaaDoorGen1
namespace Go.Proofs.YtjbieljlhjfpiaaDoor
open Go.RowKit
set_option linter.unusedVariables false

def SaidOk (w : World) (e : Ending) (w' : World) : Prop := e = .returned (.bool true) ∧ Fr No w w'
theorem said12_nil (inner : Bool) (w : World) : Calls Tryd.prog 14 #[.nilIface, .int .i64 0, .bool inner] w (SaidOk w) := by
  go_enter Tryd.func14, Tryd.ntmps14
  go_wp2
  go_ret
  exact ⟨rfl, Fr.refl _ _⟩
theorem said12_short (inner : Bool) : Short (geneveS :: if inner = true then [octetsS] else []) := by
  refine ⟨fun s hs => ?_, by cases inner <;> simp⟩
  cases inner <;> simp at hs
  · subst hs; decide
  · rcases hs with rfl | rfl <;> decide
theorem said12_txt1 (n : Nat) : txt [geneveS, octetsS] n = (⟨#[103, 101, 110, 101, 118, 101, 58, 32, 111, 99, 116, 101, 116, 115, 58, 32]⟩ : ByteArray) ++ (errorS ++ itoaS n) := by
  simp only [txt]
  rw [← ByteArray.append_assoc]
  congr 1
theorem said12_txt0 (n : Nat) : txt [geneveS] n = (⟨#[103, 101, 110, 101, 118, 101, 58, 32]⟩ : ByteArray) ++ (errorS ++ itoaS n) := by
  simp only [txt]
  congr 1

set_option maxRecDepth 100000 in
theorem said12_err {w : World} {p : Value} {n : Nat} {inner : Bool} (hg : EG w) (h : Err w (.iface 82 p) (geneveS :: if inner = true then [octetsS] else []) (n : Int)) (hn : Nr n) (h0 : n ≠ 0) :
    Calls Tryd.prog 14 #[.iface 82 p, .int .i64 n, .bool inner] w (SaidOk w) := by
  have H := Lib.hid h
  have HG := Lib.hid hg
  have HN := Lib.hid hn
  have hmW := methodErrorW
  have hi0 : ¬ ((n : Int) = 0) := by omega
  have hsz : (errorS ++ itoaS n).size ≤ 8 := by
    have h1 := itoaS_size n hn
    have h2 : errorS.size = 6 := rfl
    rw [ByteArray.size_append]; omega
  obtain ⟨b, rfl⟩ : ∃ b, p = .pointer (some ⟨b, 0, none⟩) := by cases h; exact ⟨_, rfl⟩
  clear h hg hn
  cases inner with
  | true =>
    replace H : Hid (Err w (.iface 82 (.pointer (some ⟨b, 0, none⟩))) [geneveS, octetsS] (n : Int)) := H
    have hsh : Short [geneveS, octetsS] := said12_short true
    have HSH := Lib.hid hsh
    clear hsh
    have ht := said12_txt1 n
    generalize hE : errorS ++ itoaS n = E at *
    have HE := Lib.hid hE
    have HT := Lib.hid ht
    clear hE ht
    go_enter Tryd.func14, Tryd.ntmps14
    go_wp2_with (first
      | (go_at_call 19; refine (errIs_any H.out n).mono ?_; rw [show ((n : Int) == (n : Int)) = true from beq_self_eq_true _]; rintro e w1 ⟨rfl, rfl⟩)
      | (go_at_call 18; refine (code_any HG.out H.out).mono ?_; rintro e w2 ⟨rfl, f2⟩; have F2 := Lib.hid f2; clear f2)
      | (go_at_call 91; refine (wrong_text (H.out.no F2.out) HN.out HSH.out).mono ?_; rw [HT.out]; rintro e w3 ⟨rfl, m3, rfl⟩)
      | (go_at_call 38; refine (errno_Error_any n HN.out _).mono ?_; rw [HE.out]; rintro e w4 ⟨rfl, rfl⟩))
    go_ret
    exact ⟨rfl, F2.out.drewN _⟩
  | false =>
    replace H : Hid (Err w (.iface 82 (.pointer (some ⟨b, 0, none⟩))) [geneveS] (n : Int)) := H
    have hsh : Short [geneveS] := said12_short false
    have HSH := Lib.hid hsh
    clear hsh
    have ht := said12_txt0 n
    generalize hE : errorS ++ itoaS n = E at *
    have HE := Lib.hid hE
    have HT := Lib.hid ht
    clear hE ht
    go_enter Tryd.func14, Tryd.ntmps14
    go_wp2_with (first
      | (go_at_call 19; refine (errIs_any H.out n).mono ?_; rw [show ((n : Int) == (n : Int)) = true from beq_self_eq_true _]; rintro e w1 ⟨rfl, rfl⟩)
      | (go_at_call 18; refine (code_any HG.out H.out).mono ?_; rintro e w2 ⟨rfl, f2⟩; have F2 := Lib.hid f2; clear f2)
      | (go_at_call 91; refine (wrong_text (H.out.no F2.out) HN.out HSH.out).mono ?_; rw [HT.out]; rintro e w3 ⟨rfl, m3, rfl⟩)
      | (go_at_call 38; refine (errno_Error_any n HN.out _).mono ?_; rw [HE.out]; rintro e w4 ⟨rfl, rfl⟩))
    go_ret
    exact ⟨rfl, F2.out.drewN _⟩

end Go.Proofs.YtjbieljlhjfpiaaDoor
