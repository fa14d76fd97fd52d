/- Options; geneve: Critical, flags, Right, size. -/
import Derived.Test.YthoppkklooomgaaOctR
import Derived.Test.YthoppkklooomgaaErrIs
namespace Go.Proofs.Ythoppkklooomgaa
open Go.RowKit
set_option linter.unusedVariables false
theorem add_of_spot {x : Addr} (h : x.spot = none) (k : Nat) : x.add k = ⟨x.block, x.off + k, none⟩ := by
  obtain ⟨b, o, s⟩ := x
  cases h
  exact Addr.add_lit _ _ _
def geneveS : ByteArray := ⟨#[103, 101, 110, 101, 118, 101]⟩

/-- An option. -/
structure Opt where
  cls : Nat
  typ : UInt8
  b : List UInt8

/-- The option number i of a row at a, as it is read. -/
def OptAt (w : World) (a : Addr) (i : Nat) (o : Opt) : Prop :=
  ∃ bo bc, w.cell? (a.add (i * 3)) = some (.int .u16 (o.cls : Int)) ∧ w.cell? ⟨(a.add (i * 3)).block, (a.add (i * 3)).off + 1, none⟩ = some (.int .u8 (o.typ.toNat : Int)) ∧ w.cell? ⟨(a.add (i * 3)).block, (a.add (i * 3)).off + 2, none⟩ = some (.slice bo o.b.length bc) ∧ Bs w bo o.b.length bc o.b
/-- A slice of options that are read. -/
structure Rs (w : World) (ao : Option Addr) (n cap : Nat) (os : List Opt) : Prop where
  len : n = os.length
  le : n ≤ cap
  capLe : cap ≤ 9223372036854775807
  nocap : ao = none → cap = 0
  at' : ∀ a, ao = some a → ∀ (i : Nat) (o : Opt), os[i]? = some o → OptAt w a i o
  cls : ∀ o ∈ os, o.cls < 65536
theorem OptAt.no {w w' : World} {a : Addr} {i : Nat} {o : Opt} (h : OptAt w a i o) (hf : Fr No w w') : OptAt w' a i o := by
  obtain ⟨bo, bc, h1, h2, h3, h4⟩ := h
  exact ⟨bo, bc, hf.cell h1 (fun h => h), hf.cell h2 (fun h => h), hf.cell h3 (fun h => h), h4.no hf⟩
theorem Rs.no {w w' : World} {ao : Option Addr} {n cap : Nat} {os : List Opt} (h : Rs w ao n cap os) (hf : Fr No w w') : Rs w' ao n cap os :=
  ⟨h.len, h.le, h.capLe, h.nocap, fun a ha i o ho => (h.at' a ha i o ho).no hf, h.cls⟩
theorem Rs.get {w : World} {ao : Option Addr} {n cap : Nat} {os : List Opt} (h : Rs w ao n cap os) (k : Nat) (hk : k < n) : ∃ a o, ao = some a ∧ os[k]? = some o ∧ OptAt w a k o ∧ o.cls < 65536 := by
  have hk' : k < os.length := by rw [← h.len]; exact hk
  cases ao with
  | none => have := h.nocap rfl; have := h.le; omega
  | some a => exact ⟨a, os[k], rfl, List.getElem?_eq_getElem hk', h.at' a rfl k _ (List.getElem?_eq_getElem hk'), h.cls _ (List.getElem_mem hk')⟩
theorem Rs.take {w : World} {ao : Option Addr} {n cap : Nat} {os : List Opt} (h : Rs w ao n cap os) (m : Nat) (hm : m ≤ n) : Rs w ao m cap (os.take m) := by
  refine ⟨by rw [List.length_take, ← h.len]; omega, Nat.le_trans hm h.le, h.capLe, h.nocap, fun a ha i o ho => ?_, fun o ho => h.cls o (List.mem_of_mem_take ho)⟩
  rw [List.getElem?_take] at ho
  split at ho
  · exact h.at' a ha i o ho
  · cases ho

theorem gnSize_ok (ao : Option Addr) (n cap : Nat) (h1 : 14 ≤ n) (h2 : n ≤ 9000) (w : World) : Calls Try.prog 30 #[.slice ao n cap] w fun e w' => e = .returned .nilIface ∧ w = w' := by
  go_enter Try.func30, Try.ntmps30
  go_wp2
  go_ret
  exact ⟨rfl, rfl⟩
theorem gnSize_no (ao : Option Addr) (n cap : Nat) (code : Int) (h : n < 14 ∧ code = 2 ∨ 9000 < n ∧ code = 7) (w : World) : Calls Try.prog 30 #[.slice ao n cap] w (IsErr w [geneveS] code) := by
  rcases h with ⟨h, rfl⟩ | ⟨h, rfl⟩
  · go_enter Try.func30, Try.ntmps30
    go_wp2_with (go_at_call 23; refine (wrap_err _ (Err.num 2)).mono ?_; rintro e w1 ⟨b, rfl, he, hf⟩)
    go_ret
    exact ⟨b, rfl, he, hf⟩
  · go_enter Try.func30, Try.ntmps30
    go_wp2_with (go_at_call 23; refine (wrap_err _ (Err.num 7)).mono ?_; rintro e w1 ⟨b, rfl, he, hf⟩)
    go_ret
    exact ⟨b, rfl, he, hf⟩

/-- Is an option critical? -/
def crit (t : UInt8) : Bool := decide (128 ≤ t.toNat)
theorem crit_bits (t : UInt8) : (bits .and .u8 (t.toNat : Int) 128 != 0) = crit t := by
  have h : ∀ k : Nat, k < 256 → (bits .and .u8 (k : Int) 128 != 0) = decide (128 ≤ k) := by decide +kernel
  exact h _ t.toNat_lt
def CritOk (w : World) (b : Bool) (e : Ending) (w' : World) : Prop := e = .returned (.bool b) ∧ Fr No w w'
theorem critical_any {w : World} (c : Int) (t : UInt8) (s : Value) (hs : s.oneCell' = true) : Calls Try.prog 47 #[.agg #[.int .u16 c, .int .u8 t.toNat, s]] w (CritOk w (crit t)) := by
  have hc := crit_bits t
  have F0 := Lib.hid ((Fr.refl No w).alloc (.cells #[.int .u16 c, .int .u8 t.toNat, s] 38))
  go_enter Try.func47, Try.ntmps47
  go_wp2_with fail
  go_ret
  exact ⟨rfl, F0.out⟩

/-- Is one critical? -/
def anyCrit (os : List Opt) : Bool := os.any fun o => crit o.typ
def IdxOk (w : World) (b : Bool) (e : Ending) (w' : World) : Prop := ∃ r : Int, e = .returned (.int .i64 r) ∧ decide (0 ≤ r) = b ∧ Fr No w w'
theorem anyCrit_found {os : List Opt} {k : Nat} {o : Opt} (h : os[k]? = some o) (hc : crit o.typ = true) : anyCrit os = true :=
  List.any_eq_true.2 ⟨o, List.mem_of_getElem? h, hc⟩
theorem anyCrit_none {os : List Opt} {k : Nat} (hk : os.length ≤ k) (h : ∀ i o, i < k → os[i]? = some o → crit o.typ = false) : anyCrit os = false := by
  apply Bool.eq_false_iff.2
  intro hc
  obtain ⟨o, ho, hcr⟩ := List.any_eq_true.1 hc
  obtain ⟨i, hi, rfl⟩ := List.getElem_of_mem ho
  have := h i _ (by omega) (List.getElem?_eq_getElem hi)
  rw [this] at hcr; cases hcr

theorem index_any {w : World} {ao : Option Addr} {n cap : Nat} {os : List Opt} (h : Rs w ao n cap os) : Calls Try.prog 64 #[.slice ao n cap, .func (.func 47) #[] #[]] w (IdxOk w (anyCrit os)) := by
  have hle := h.le
  have hcc := h.capLe
  have H := Lib.hid h
  have hn := h.len
  have HN := Lib.hid hn
  clear h hn
  go_enter Try.func64, Try.ntmps64
  go_wp2_with fail
  go_loopw [8] (fun t wr => ∃ k : Nat, t = .int .i64 k ∧ k ≤ n ∧ (∀ i o, i < k → os[i]? = some o → crit o.typ = false) ∧ Fr No w wr) (fun t _ => n - (intOf t).toNat)
  case atStart => exact ⟨0, rfl, by omega, by omega, Fr.refl _ _⟩
  case round =>
    obtain ⟨k, rfl, hk, hno, hf⟩ := hrel
    have F1 := Lib.hid hf
    have NO := Lib.hid hno
    clear hno
    by_cases hlt : k < n
    · obtain ⟨a, o, rfl, ho, ⟨bo, bc, h1, h2, h3, h4⟩, hcl⟩ := (H.out.no hf).get k hlt
      have HO := Lib.hid ho
      clear h4 ho hf
      cases hcr : crit o.typ with
      | true =>
        go_wp2_with (go_at_call 47; refine (critical_any _ _ _ rfl).mono ?_; rw [hcr]; rintro e w2 ⟨rfl, f2⟩; have F2 := Lib.hid (F1.out.then_no f2); clear f2)
        go_ret
        exact ⟨_, rfl, by rw [anyCrit_found HO.out hcr]; simp, F2.out⟩
      | false =>
        go_wp2_with (go_at_call 47; refine (critical_any _ _ _ rfl).mono ?_; rw [hcr]; rintro e w2 ⟨rfl, f2⟩; have F2 := Lib.hid (F1.out.then_no f2); clear f2)
        go_roundw
        case rel =>
          refine ⟨k + 1, by go_num, by omega, fun i o' hi ho' => ?_, F2.out⟩
          rcases Nat.lt_or_ge i k with h | h
          · exact NO.out i o' h ho'
          · obtain rfl : i = k := by omega
            rw [HO.out] at ho'; cases ho'; exact hcr
        case measure => simp [intOf]; omega
    · clear hf
      go_wp2_with fail
      go_ret
      exact ⟨_, rfl, by rw [anyCrit_none (k := k) (by rw [← HN.out]; omega) NO.out]; simp, F1.out⟩

theorem contains_any {w : World} {ao : Option Addr} {n cap : Nat} {os : List Opt} (h : Rs w ao n cap os) : Calls Try.prog 49 #[.slice ao n cap, .func (.func 47) #[] #[]] w (CritOk w (anyCrit os)) := by
  have H := Lib.hid h
  clear h
  go_enter Try.func49, Try.ntmps49
  go_wp2_with (go_at_call 64; refine (index_any H.out).mono ?_; rintro e w2 ⟨r, rfl, hr, f2⟩; have F2 := Lib.hid f2; clear f2)
  go_ret
  exact ⟨rfl, F2.out⟩

/-- The second octet of a header. -/
def gflag (b : Bool) : Int := if b then 64 else 0
def FlagOk (w : World) (x : Int) (e : Ending) (w' : World) : Prop := e = .returned (.int .u8 x) ∧ Fr No w w'
theorem flags_any {w : World} {ao : Option Addr} {n cap : Nat} {os : List Opt} (h : Rs w ao n cap os) : Calls Try.prog 35 #[.slice ao n cap] w (FlagOk w (gflag (anyCrit os))) := by
  have H := Lib.hid h
  clear h
  cases hc : anyCrit os with
  | true =>
    go_enter Try.func35, Try.ntmps35
    go_wp2_with (go_at_call 49; refine (contains_any H.out).mono ?_; rw [hc]; rintro e w2 ⟨rfl, f2⟩; have F2 := Lib.hid f2; clear f2)
    go_ret
    exact ⟨rfl, F2.out⟩
  | false =>
    go_enter Try.func35, Try.ntmps35
    go_wp2_with (go_at_call 49; refine (contains_any H.out).mono ?_; rw [hc]; rintro e w2 ⟨rfl, f2⟩; have F2 := Lib.hid f2; clear f2)
    go_ret
    exact ⟨rfl, F2.out⟩

/-- What is wrong with the sizes of options. -/
def badO (o : Opt) : Bool := decide (o.b.length % 4 ≠ 0) || decide (124 < o.b.length)
def osum : List Opt → Nat
  | [] => 0
  | o :: r => 4 + o.b.length + osum r
theorem osum_snoc (l : List Opt) (o : Opt) : osum (l ++ [o]) = osum l + (4 + o.b.length) := by
  induction l with
  | nil => simp [osum]
  | cons x l ih => simp [osum, ih]; omega
/-- The number of the error; 0: none. -/
def rightN (os : List Opt) : Int := if os.any badO then 1 else if 252 < osum os then 7 else 0
def RightOk (w : World) (n : Int) (e : Ending) (w' : World) : Prop := (n = 0 ∧ e = .returned .nilIface ∧ Fr No w w') ∨ (n ≠ 0 ∧ IsErr w [geneveS] n e w')
theorem osum_le {l : List Opt} (h : ∀ o ∈ l, badO o = false) : osum l ≤ 128 * l.length := by
  induction l with
  | nil => simp [osum]
  | cons x l ih =>
    have h1 := h x (List.mem_cons_self)
    have h2 := ih (fun o ho => h o (List.mem_cons_of_mem _ ho))
    simp [badO] at h1
    simp [osum]; omega
theorem take_snoc {α : Type} {l : List α} {k : Nat} {x : α} (h : l[k]? = some x) : l.take (k + 1) = l.take k ++ [x] := by
  rw [List.take_add_one, h]; rfl

theorem right_big {w : World} {ao : Option Addr} {n cap : Nat} {os : List Opt} (h : Rs w ao n cap os) (hn : n ≤ 4398046511104) : Calls Try.prog 29 #[.slice ao n cap] w (RightOk w (rightN os)) := by
  have hle := h.le
  have hcc := h.capLe
  have H := Lib.hid h
  have hN := h.len
  have HN := Lib.hid hN
  clear h hN
  go_enter Try.func29, Try.ntmps29
  go_wp2_with fail
  go_loopw [3, 8] (fun t3 t wr => ∃ k : Nat, t = .int .i64 k ∧ k ≤ n ∧ t3 = .int .i64 (osum (os.take k) : Nat) ∧ (∀ o ∈ os.take k, badO o = false) ∧ Fr No w wr) (fun _ t _ => n - (intOf t).toNat)
  case atStart => exact ⟨0, rfl, by omega, rfl, by simp, Fr.refl _ _⟩
  case round =>
    obtain ⟨k, rfl, hk, rfl, hno, hf⟩ := hrel
    have F1 := Lib.hid hf
    have NO := Lib.hid hno
    have hsum := osum_le hno
    have hlk : (os.take k).length ≤ k := List.length_take_le _ _
    have hs2 : osum (os.take k) ≤ 562949953421312 := by omega
    clear hno hsum hlk
    obtain ⟨S, hS⟩ : ∃ S, S = osum (os.take k) := ⟨_, rfl⟩
    rw [← hS] at hs2 ⊢
    have HS := Lib.hid hS
    clear hS
    by_cases hlt : k < n
    · obtain ⟨a, o, rfl, ho, ⟨bo, bc, h1, h2, h3, h4⟩, hcl⟩ := (H.out.no hf).get k hlt
      have hbc := h4.2.le
      have hbc2 := h4.2.capLe
      have HO := Lib.hid ho
      have X1 := Lib.hid (heap_alloc_new wr (.cells #[.int .u16 (o.cls : Int), .int .u8 (o.typ.toNat : Int), .slice bo o.b.length bc] 38))
      have F2 := Lib.hid (F1.out.alloc (.cells #[.int .u16 (o.cls : Int), .int .u8 (o.typ.toNat : Int), .slice bo o.b.length bc] 38))
      clear h4 ho hf
      by_cases hm : o.b.length % 4 = 0
      · have hmi : ((o.b.length : Nat) : Int) % 4 = 0 := by omega
        by_cases hm2 : 124 < o.b.length
        · have hb : badO o = true := by simp [badO, hm2]
          have hr : rightN os = 1 := by unfold rightN; rw [if_pos (List.any_eq_true.2 ⟨o, List.mem_of_getElem? HO.out, hb⟩)]
          rw [hr]
          clear hb hr
          go_wp2_with (go_at_call 23; refine (wrap_err _ (Err.num 1)).mono ?_; rintro e w3 ⟨b, rfl, he, f3⟩; have HE := Lib.hid he; have F3 := Lib.hid (F2.out.then_no f3); clear he f3)
          go_ret
          exact .inr ⟨by decide, b, rfl, HE.out, F3.out⟩
        · have hb : badO o = false := by simp [badO, hm]; omega
          have HB := Lib.hid hb
          clear hb
          go_wp2_with fail
          go_roundw
          case rel =>
            refine ⟨k + 1, by go_num, by omega, ?_, ?_, F2.out⟩
            · rw [take_snoc HO.out, osum_snoc, ← HS.out]; congr 1 <;> omega
            · intro o' ho'
              rw [take_snoc HO.out, List.mem_append] at ho'
              rcases ho' with h | h
              · exact NO.out o' h
              · simp at h; rw [h]; exact HB.out
          case measure => simp [intOf]; omega
      · have hmi : ¬ ((o.b.length : Nat) : Int) % 4 = 0 := by omega
        have hb : badO o = true := by simp [badO, hm]
        have hr : rightN os = 1 := by unfold rightN; rw [if_pos (List.any_eq_true.2 ⟨o, List.mem_of_getElem? HO.out, hb⟩)]
        rw [hr]
        clear hb hr
        go_wp2_with (go_at_call 23; refine (wrap_err _ (Err.num 1)).mono ?_; rintro e w3 ⟨b, rfl, he, f3⟩; have HE := Lib.hid he; have F3 := Lib.hid (F2.out.then_no f3); clear he f3)
        all_goals go_ret
        all_goals exact .inr ⟨by decide, b, rfl, HE.out, F3.out⟩
    · have hall : os.take k = os := List.take_of_length_le (by rw [← HN.out]; omega)
      have ha : os.any badO = false := by
        apply Bool.eq_false_iff.2
        intro hc
        obtain ⟨o, ho, hb⟩ := List.any_eq_true.1 hc
        have := NO.out o (by rw [hall]; exact ho)
        rw [this] at hb; cases hb
      have HS2 := HS.out
      rw [hall] at HS2
      clear hf
      by_cases h252 : 252 < S
      · have hr : rightN os = 7 := by unfold rightN; rw [if_neg (by rw [ha]; decide), if_pos (by omega)]
        have HR := Lib.hid hr
        clear hr ha HS2 hall
        go_wp2_with (go_at_call 23; refine (wrap_err _ (Err.num 7)).mono ?_; rintro e w3 ⟨b, rfl, he, f3⟩; have HE := Lib.hid he; have F3 := Lib.hid (F1.out.then_no f3); clear he f3)
        go_ret
        rw [HR.out]
        exact .inr ⟨by decide, b, rfl, HE.out, F3.out⟩
      · have hr : rightN os = 0 := by unfold rightN; rw [if_neg (by rw [ha]; decide), if_neg (by omega)]
        have HR := Lib.hid hr
        clear hr ha HS2 hall
        go_wp2_with fail
        go_ret
        rw [HR.out]
        exact .inl ⟨rfl, rfl, F1.out⟩

theorem right_any {w : World} {ao : Option Addr} {n cap : Nat} {os : List Opt} (h : Rs w ao n cap os) (hn : n ≤ 1000) : Calls Try.prog 29 #[.slice ao n cap] w (RightOk w (rightN os)) := right_big h (by omega)
end Go.Proofs.Ythoppkklooomgaa