/- The text of our errors. -/
import Derived.Test.YthoppkklooomgaaErrIs
import Derived.Deep.QuietTactic
import Derived.BigQuiet
namespace Go.Proofs.Ythoppkklooomgaa
open Go.RowKit Go.Extern.Stop Go.Stop Go.Extern
set_option linter.unusedVariables false
def digitsS : ByteArray := ⟨#[48, 49, 50, 51, 52, 53, 54, 55, 56, 57, 97, 98, 99, 100, 101, 102, 103, 104, 105, 106, 107, 108, 109, 110, 111, 112, 113, 114, 115, 116, 117, 118, 119, 120, 121, 122]⟩
def errorS : ByteArray := ⟨#[101, 114, 114, 111, 114, 32]⟩
def colonS : ByteArray := ⟨#[58, 32]⟩

theorem small_ten (n : Nat) (h : n < 10) (w : World) : Calls Try.prog 96 #[.int .i64 n] w fun e w' => e = .returned (.string (digitsS.extract n (n + 1))) ∧ w = w' := by
  go_enter Try.func96, Try.ntmps96
  go_wp2
  go_ret
  exact ⟨rfl, rfl⟩

set_option maxRecDepth 100000 in
theorem small_12 (w : World) : Calls Try.prog 96 #[.int .i64 12] w fun e w' => e = .returned (.string ⟨#[49, 50]⟩) ∧ w = w' := by
  go_enter Try.func96, Try.ntmps96
  go_wp2
  go_ret
  exact ⟨rfl, rfl⟩
/-- The numbers that errors have here. -/
def Nr (n : Nat) : Prop := n < 10 ∨ n = 12
/-- Such a number, as a text. -/
def itoaS (n : Nat) : ByteArray := if n = 12 then ⟨#[49, 50]⟩ else digitsS.extract n (n + 1)
theorem itoaS_size (n : Nat) (h : Nr n) : (itoaS n).size ≤ 2 := by
  unfold itoaS
  split
  · decide
  · rw [ByteArray.size_extract]
    simp [digitsS, ByteArray.size]
    omega
theorem small_any (n : Nat) (h : Nr n) (w : World) : Calls Try.prog 96 #[.int .i64 n] w fun e w' => e = .returned (.string (itoaS n)) ∧ w = w' := by
  rcases h with h | rfl
  · unfold itoaS
    rw [if_neg (by omega)]
    exact small_ten n h w
  · exact small_12 w
theorem itoa_any (n : Nat) (h : Nr n) (w : World) : Calls Try.prog 93 #[.int .i64 n] w fun e w' => e = .returned (.string (itoaS n)) ∧ w = w' := by
  have h2 : (n : Int) < 100 := by unfold Nr at h; omega
  have H := Lib.hid h
  clear h
  go_enter Try.func93, Try.ntmps93
  go_wp2_with (first | (go_at_call 96; refine (small_any n H.out _).mono ?_; rintro e w1 ⟨rfl, rfl⟩) | (go_at_call 94; go_in) | (go_at_call 95; go_in))
  go_ret
  exact ⟨rfl, rfl⟩

theorem errno_Error_any (n : Nat) (h : Nr n) (w : World) : Calls Try.prog 92 #[.int .i64 n] w fun e w' => e = .returned (.string (errorS ++ itoaS n)) ∧ w = w' := by
  have hs := itoaS_size n h
  have H := Lib.hid h
  clear h
  go_enter Try.func92, Try.ntmps92
  go_wp2_with (first | (go_at_call 93; refine (itoa_any n H.out _).mono ?_; rintro e w1 ⟨rfl, rfl⟩))
  go_ret
  exact ⟨rfl, rfl⟩

def txt : List ByteArray → Nat → ByteArray
  | [], n => errorS ++ itoaS n
  | s :: ls, n => (s ++ colonS) ++ txt ls n

theorem methodErrorE (v : Value) (w : World) : (Go.method 315 32 v "Error").run Try.prog w = .ok (92, v) w := by kernel_rfl
theorem methodErrorW (v : Value) (w : World) : (Go.method 315 107 v "Error").run Try.prog w = .ok (107, v) w := by kernel_rfl

/-- Layers' names are short. -/
def Short (ls : List ByteArray) : Prop := (∀ s ∈ ls, s.size ≤ 100) ∧ ls.length ≤ 100
theorem txt_size {ls : List ByteArray} {n : Nat} (h : ∀ s ∈ ls, s.size ≤ 100) (hn : Nr n) : (txt ls n).size ≤ 10 + ls.length * 102 := by
  induction ls with
  | nil =>
    have h1 := itoaS_size n hn
    have h2 : errorS.size = 6 := rfl
    simp only [txt, ByteArray.size_append, h2, List.length_nil]
    omega
  | cons s ls ih =>
    have h1 := h s (by simp)
    have h2 := ih (fun t ht => h t (by simp [ht]))
    have h3 : colonS.size = 2 := rfl
    simp only [txt, ByteArray.size_append, List.length_cons, h3]
    omega

/-- The text of an error that a layer has met, out of what it has met's. -/
theorem wrong_Error_of {w : World} {s t : ByteArray} {u : TypeId} {x : Value} {b f : Nat} (hb : w.heap[b]? = some (.cells #[.string s, .iface u x] 109 (0, 0))) (hs : s.size ≤ 1000) (ht : t.size ≤ 1000000)
    (hm : ∀ w, (Go.method 315 u x "Error").run Try.prog w = .ok (f, x) w) (hf : ∀ w, (callFunc f #[x]).run Try.prog w = .ok (.enter f #[x]) w) (hc : ∀ k, Calls Try.prog f #[x] (w.drewN k) fun e w' => e = .returned (.string t) ∧ ∃ m, w' = w.drewN (k + m)) (k : Nat) :
    Calls Try.prog 107 #[.pointer (some ⟨b, 0, none⟩)] (w.drewN k) fun e w' => e = .returned (.string ((s ++ colonS) ++ t)) ∧ ∃ m, w' = w.drewN (k + m) := by
  have c0 : w.cell? ⟨b, 0, none⟩ = some (.string s) := by rw [cell_of_row w b 0 _ _ _ hb]; rfl
  have c1 : w.cell? ⟨b, 1, none⟩ = some (.iface u x) := by rw [cell_of_row w b 1 _ _ _ hb]; rfl
  have h3 : colonS.size = 2 := rfl
  have a1 : ¬ (9223372036854775807 < s.size + 2) := by omega
  have a2 : ¬ (9223372036854775807 < s.size + 2 + t.size) := by omega
  clear hs ht h3 hb
  have HC := Lib.hid hc
  clear hc
  go_enter Try.func107, Try.ntmps107
  go_wp2_with fail
  go_quiet ((refine Calls.mono (HC.out _) ?_; rintro e w' ⟨rfl, m, rfl⟩; exact ⟨rfl, _, by rw [Nat.add_assoc]⟩))
  go_wp2_with fail
  go_ret
  exact ⟨rfl, _, World.drewN_drewN _ _ _⟩

/-- The method 'Error' of an error, whatever it wraps: a contract at the dynamic type's function. -/
theorem err_text {w : World} {v : Value} {ls : List ByteArray} {n : Nat} (h : Err w v ls n) (hn : Nr n) (hs : Short ls) :
    ∃ u x f, v = .iface u x ∧ (∀ w, (Go.method 315 u x "Error").run Try.prog w = .ok (f, x) w) ∧ (∀ w, (callFunc f #[x]).run Try.prog w = .ok (.enter f #[x]) w) ∧
      ∀ k, Calls Try.prog f #[x] (w.drewN k) fun e w' => e = .returned (.string (txt ls n)) ∧ ∃ m, w' = w.drewN (k + m) := by
  generalize hz : (n : Int) = z at h
  induction h with
  | num n' =>
    subst hz
    exact ⟨_, _, 92, rfl, methodErrorE _, fun w => by kernel_rfl, fun k => (errno_Error_any n hn _).mono fun e w' h => ⟨h.1, 0, h.2.symm⟩⟩
  | @wrap b s v' ls' n' hb hv ih =>
    obtain ⟨u, x, f, rfl, hm, hf, hc⟩ := ih ⟨fun t ht => hs.1 t (by simp [ht]), by have := hs.2; simp at this; omega⟩ hz
    refine ⟨_, _, 107, rfl, methodErrorW _, fun w => by kernel_rfl, fun k => ?_⟩
    have h1 := hs.1 s (by simp)
    have h2 := txt_size (n := n) (ls := ls') (fun t ht => hs.1 t (by simp [ht])) hn
    have h3 := hs.2
    simp at h3
    exact wrong_Error_of hb (by omega) (by omega) hm hf hc k

/-- The text of an error that a layer has met. -/
theorem wrong_text {w : World} {p : Value} {ls : List ByteArray} {n : Nat} (h : Err w (.iface 107 p) ls n) (hn : Nr n) (hs : Short ls) :
    Calls Try.prog 107 #[p] w fun e w' => e = .returned (.string (txt ls n)) ∧ ∃ m, w' = w.drewN m := by
  generalize hz : (n : Int) = z at h
  cases h with
  | @wrap b s v' ls' n' hb hv =>
    subst hz
    obtain ⟨u, x, f, rfl, hm, hf, hc⟩ := err_text hv hn ⟨fun t ht => hs.1 t (by simp [ht]), by have := hs.2; simp at this; omega⟩
    have h1 := hs.1 s (by simp)
    have h2 := txt_size (n := n) (ls := ls') (fun t ht => hs.1 t (by simp [ht])) hn
    have h3 := hs.2
    simp at h3
    refine (wrong_Error_of hb (by omega) (by omega) hm hf hc 0).mono ?_
    rintro e w' ⟨rfl, m, rfl⟩
    exact ⟨rfl, 0 + m, rfl⟩

end Go.Proofs.Ythoppkklooomgaa