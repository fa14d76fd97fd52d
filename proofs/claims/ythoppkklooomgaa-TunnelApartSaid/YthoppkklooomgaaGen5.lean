/- geneve: a row of options that is owned; what bytes say of options. -/
import Derived.Test.YthoppkklooomgaaGen4
import Derived.Test.YthoppkklooomgaaGen3
import Derived.StillTailTactics
namespace Go.Proofs.Ythoppkklooomgaa
open Go.RowKit
set_option linter.unusedVariables false
/-- The cells of a row of options whose bytes lie at ad. -/
def optV : List Opt → List (Option Addr × Nat) → List Value
  | o :: os, p :: ad => .int .u16 (o.cls : Int) :: .int .u8 (o.typ.toNat : Int) :: .slice p.1 o.b.length p.2 :: optV os ad
  | _, _ => []
theorem optV_length : ∀ (os : List Opt) (ad : List (Option Addr × Nat)), ad.length = os.length → (optV os ad).length = os.length * 3
  | [], _, _ => by simp [optV]
  | o :: os, [], h => by simp at h
  | o :: os, p :: ad, h => by simp [optV, optV_length os ad (by simpa using h)]; omega
theorem optV_snoc (o : Opt) (p : Option Addr × Nat) : ∀ (os : List Opt) (ad : List (Option Addr × Nat)), ad.length = os.length →
    optV (os ++ [o]) (ad ++ [p]) = optV os ad ++ [.int .u16 (o.cls : Int), .int .u8 (o.typ.toNat : Int), .slice p.1 o.b.length p.2]
  | [], [], _ => by simp [optV]
  | [], _ :: _, h => by simp at h
  | o' :: os, [], h => by simp at h
  | o' :: os, p' :: ad, h => by simp [optV, optV_snoc o p os ad (by simpa using h)]
theorem optV_get : ∀ (os : List Opt) (ad : List (Option Addr × Nat)) (i : Nat) (o : Opt) (p : Option Addr × Nat), os[i]? = some o → ad[i]? = some p →
    (optV os ad)[i * 3]? = some (.int .u16 (o.cls : Int)) ∧ (optV os ad)[i * 3 + 1]? = some (.int .u8 (o.typ.toNat : Int)) ∧ (optV os ad)[i * 3 + 2]? = some (.slice p.1 o.b.length p.2)
  | [], _, i, o, p, h, _ => by simp at h
  | _ :: _, [], i, o, p, _, h => by simp at h
  | o' :: os, p' :: ad, 0, o, p, h, h' => by simp at h h'; subst h; subst h'; simp [optV]
  | o' :: os, p' :: ad, i + 1, o, p, h, h' => by
    have := optV_get os ad i o p (by simpa using h) (by simpa using h')
    have e : (i + 1) * 3 = i * 3 + 3 := by omega
    rw [e]
    exact this

/-- A row of options that is owned: the row and the bytes of each lie in blocks of their own, all of them in S. -/
structure Ro (S : Nat → Prop) (w : World) (ao : Option Addr) (n cap : Nat) (os : List Opt) (ad : List (Option Addr × Nat)) : Prop where
  len : os.length = n
  adl : ad.length = n
  own : Own w 38 3 ao n cap (optV os ad)
  row : ∀ a, ao = some a → S a.block
  ob : ∀ (i : Nat) (o : Opt) (p : Option Addr × Nat), os[i]? = some o → ad[i]? = some p → OB w 5 p.1 o.b.length p.2 o.b ∧ ∀ a, p.1 = some a → S a.block ∧ ∀ x, ao = some x → x.block ≠ a.block
  dis : ∀ (i j : Nat) (p q : Option Addr × Nat) (a b : Addr), ad[i]? = some p → ad[j]? = some q → p.1 = some a → q.1 = some b → a.block = b.block → i = j
  cls : ∀ o ∈ os, o.cls < 65536
theorem Ro.nil (S : Nat → Prop) (w : World) : Ro S w none 0 0 [] [] :=
  ⟨rfl, rfl, Own.nil _ _ _, fun _ h => (by cases h), fun i o p h => by simp at h, fun i j p q a b h => by simp at h, fun o h => by simp at h⟩
theorem Ro.fr {S U : Nat → Prop} {w w' : World} {ao : Option Addr} {n cap : Nat} {os : List Opt} {ad : List (Option Addr × Nat)} (h : Ro S w ao n cap os ad) (hf : Fr U w w') (hs : ∀ k, S k → ¬ U k) : Ro S w' ao n cap os ad :=
  ⟨h.len, h.adl, h.own.fr hf (fun a ha => hs _ (h.row a ha)), h.row, fun i o p ho hp => ⟨(h.ob i o p ho hp).1.fr hf (fun a ha => hs _ ((h.ob i o p ho hp).2 a ha).1), (h.ob i o p ho hp).2⟩, h.dis, h.cls⟩
theorem Ro.no {S : Nat → Prop} {w w' : World} {ao : Option Addr} {n cap : Nat} {os : List Opt} {ad : List (Option Addr × Nat)} (h : Ro S w ao n cap os ad) (hf : Fr No w w') : Ro S w' ao n cap os ad := h.fr hf (fun _ _ h => h)
theorem Ro.mono {S S' : Nat → Prop} {w : World} {ao : Option Addr} {n cap : Nat} {os : List Opt} {ad : List (Option Addr × Nat)} (h : Ro S w ao n cap os ad) (hs : ∀ k, S k → S' k) : Ro S' w ao n cap os ad :=
  ⟨h.len, h.adl, h.own, fun a ha => hs _ (h.row a ha), fun i o p ho hp => ⟨(h.ob i o p ho hp).1, fun a ha => ⟨hs _ ((h.ob i o p ho hp).2 a ha).1, ((h.ob i o p ho hp).2 a ha).2⟩⟩, h.dis, h.cls⟩
theorem Ro.get {S : Nat → Prop} {w : World} {ao : Option Addr} {n cap : Nat} {os : List Opt} {ad : List (Option Addr × Nat)} (h : Ro S w ao n cap os ad) {i : Nat} (hi : i < n) :
    ∃ (g : Nat) (o : Opt) (p : Option Addr × Nat), ao = some ⟨g, 0, none⟩ ∧ os[i]? = some o ∧ ad[i]? = some p := by
  have h1 := h.len
  have h2 := h.adl
  cases ao with
  | none => have := h.own.nocap rfl; have := h.own.le; omega
  | some a => exact ⟨a.block, os[i], ad[i], by rw [← (h.own.row a rfl).1], List.getElem?_eq_getElem (by omega), List.getElem?_eq_getElem (by omega)⟩
theorem Ro.cells {S : Nat → Prop} {w : World} {a : Addr} {n cap : Nat} {os : List Opt} {ad : List (Option Addr × Nat)} (h : Ro S w (some a) n cap os ad) {i : Nat} {o : Opt} {p : Option Addr × Nat} (ho : os[i]? = some o) (hp : ad[i]? = some p) :
    w.cell? (a.add (i * 3)) = some (.int .u16 (o.cls : Int)) ∧ w.cell? ⟨(a.add (i * 3)).block, (a.add (i * 3)).off + 1, none⟩ = some (.int .u8 (o.typ.toNat : Int)) ∧ w.cell? ⟨(a.add (i * 3)).block, (a.add (i * 3)).off + 2, none⟩ = some (.slice p.1 o.b.length p.2) := by
  obtain ⟨h1, h2, h3⟩ := optV_get os ad i o p ho hp
  have hc := h.own.sl.cell a rfl
  have e := (h.own.row a rfl).1
  refine ⟨hc _ _ h1, ?_, ?_⟩
  · have := hc _ _ h2
    rw [e, Addr.add_lit, Nat.zero_add] at this
    rw [e, Addr.add_lit, Nat.zero_add]
    exact this
  · have := hc _ _ h3
    rw [e, Addr.add_lit, Nat.zero_add] at this
    rw [e, Addr.add_lit, Nat.zero_add]
    exact this
theorem Ro.rs {S : Nat → Prop} {w : World} {ao : Option Addr} {n cap : Nat} {os : List Opt} {ad : List (Option Addr × Nat)} (h : Ro S w ao n cap os ad) : Rs w ao n cap os := by
  refine ⟨h.len.symm, h.own.le, h.own.capLe, h.own.nocap, fun a ha i o ho => ?_, h.cls⟩
  subst ha
  have hi : i < ad.length := by have := (List.getElem?_eq_some_iff.1 ho).1; rw [h.adl, ← h.len]; exact this
  have hp := List.getElem?_eq_getElem hi
  obtain ⟨c1, c2, c3⟩ := h.cells ho hp
  exact ⟨_, _, c1, c2, c3, (h.ob i o _ ho hp).1.bs⟩
/-- One more. -/
theorem Ro.snoc {S : Nat → Prop} {w w' : World} {ao ao' : Option Addr} {n cap cap' m : Nat} {os : List Opt} {ad : List (Option Addr × Nat)} {o : Opt} {p : Option Addr × Nat} {B : Nat} (h : Ro S w ao n cap os ad)
    (hob : OB w 5 p.1 o.b.length p.2 o.b) (hB : ∀ a, p.1 = some a → B ≤ a.block) (hlt : ∀ (i : Nat) (q : Option Addr × Nat) (a : Addr), ad[i]? = some q → q.1 = some a → a.block < B) (hrow : ∀ a, ao = some a → a.block < B) (hcl : o.cls < 65536)
    (hS : ∀ k, B ≤ k → S k) (hBs : B ≤ w.heap.size) (hm : m = n + 1)
    (hown : Own w' 38 3 ao' m cap' (optV os ad ++ [.int .u16 (o.cls : Int), .int .u8 (o.typ.toNat : Int), .slice p.1 o.b.length p.2])) (hf : Fr (At ao) w w') (hd : ao' = ao ∨ ∀ a, ao' = some a → w.heap.size ≤ a.block) :
    Ro S w' ao' m cap' (os ++ [o]) (ad ++ [p]) := by
  subst hm
  have hout : ∀ a, p.1 = some a → ∀ x, ao = some x → x.block ≠ a.block := fun a ha x hx => by have := hB a ha; have := hrow x hx; omega
  refine ⟨by simp [h.len], by simp [h.adl], by rw [optV_snoc _ _ _ _ (by rw [h.adl, h.len])]; exact hown, ?_, ?_, ?_, ?_⟩
  · intro a ha
    rcases hd with rfl | hd
    · exact h.row a ha
    · exact hS _ (Nat.le_trans hBs (hd a ha))
  · intro i o' p' ho' hp'
    have key : OB w 5 p'.1 o'.b.length p'.2 o'.b ∧ ∀ a, p'.1 = some a → S a.block ∧ ∀ x, ao = some x → x.block ≠ a.block := by
      by_cases hi : i < n
      · rw [List.getElem?_append_left (by rw [h.len]; exact hi)] at ho'
        rw [List.getElem?_append_left (by rw [h.adl]; exact hi)] at hp'
        exact h.ob i o' p' ho' hp'
      · have hi' : i = n := by
          have := (List.getElem?_eq_some_iff.1 ho').1
          simp [h.len] at this; omega
        subst hi'
        rw [← h.len] at ho'
        simp at ho'
        have hp2 : (ad ++ [p])[ad.length]? = some p' := by rw [h.adl]; exact hp'
        simp at hp2
        subst ho'; subst hp2
        exact ⟨hob, fun a ha => ⟨hS _ (hB a ha), hout a ha⟩⟩
    refine ⟨key.1.fr hf (fun a ha => ?_), fun a ha => ⟨(key.2 a ha).1, fun x hx => ?_⟩⟩
    · rintro ⟨x, hx, e⟩
      exact (key.2 a ha).2 x hx e
    · rcases hd with rfl | hd
      · exact (key.2 a ha).2 x hx
      · have h1 := hd x hx
        have h2 := key.1.2.lt a ha
        omega
  · intro i j p1 p2 a b h1 h2 ha hb he
    have cut : ∀ (k : Nat) (q : Option Addr × Nat), (ad ++ [p])[k]? = some q → (k < n ∧ ad[k]? = some q) ∨ (k = n ∧ q = p) := by
      intro k q hq
      by_cases hk : k < n
      · rw [List.getElem?_append_left (by rw [h.adl]; exact hk)] at hq; exact .inl ⟨hk, hq⟩
      · have hk' : k = n := by
          have := (List.getElem?_eq_some_iff.1 hq).1
          simp [h.adl] at this; omega
        refine .inr ⟨hk', ?_⟩
        rw [hk', ← h.adl] at hq
        simp at hq
        exact hq.symm
    rcases cut i p1 h1 with ⟨hi, k1⟩ | ⟨hi, k1⟩ <;> rcases cut j p2 h2 with ⟨hj, k2⟩ | ⟨hj, k2⟩
    · exact h.dis i j p1 p2 a b k1 k2 ha hb he
    · subst k2; have := hlt i p1 a k1 ha; have := hB b hb; omega
    · subst k1; have := hlt j p2 b k2 hb; have := hB a ha; omega
    · omega
  · intro o' ho'
    rcases List.mem_append.1 ho' with h1 | h1
    · exact h.cls o' h1
    · simp at h1; rw [h1]; exact hcl

theorem info_opt : (Try.prog.info? 38).map (fun i => (i.zero, i.size, i.bytes)) = some (some (.agg #[.int .u16 0, .int .u8 0, .slice none 0 0]), 3, 32) := by kernel_rfl
/-- append at []api.Option, of one. -/
theorem wpl_append_opt {w : World} {ops : Array Oper} {rest : List Oper} {o : Oper} {a : Act} {Q : Exit → Act → World → Prop} (s x : Operand)
    (hgd : o.guard = none) (hop : o.op = .call { callee := .builtin .append, args := #[s, x], argTypes := #[24, 24] })
    {ao : Option Addr} {n cap : Nat} (hev : a.eval s = .slice ao n cap) {bo : Option Addr} {c : Nat} (hex : a.eval x = .slice bo 1 c)
    {xs : List Value} {u0 u1 u2 : Value} (h1 : Own w 38 3 ao n cap xs) (h2 : Sl w bo 1 c [u0, u1, u2]) (hu0 : u0.oneCell' = true) (hu1 : u1.oneCell' = true) (hu2 : u2.oneCell' = true) (hb : n ≤ 1000000)
    (hK : ∀ ao' cap' w', Own w' 38 3 ao' (n + 1) cap' (xs ++ [u0, u1, u2]) → Fr (At ao) w w' → (ao' = ao ∨ ∀ a, ao' = some a → w.heap.size ≤ a.block) →
      wpList Try.prog ops Q rest (a.put o.dst (.slice ao' (n + 1) cap')) w') :
    wpList Try.prog ops Q (o :: rest) a w := by
  obtain ⟨i0, hi, hz0, hz1, hz2⟩ := info_parts info_opt
  refine wpList_append_U w hgd s x 24 hop 38 i0 _ 3 32 Try.underlying24 hi hz0 hz1 hz2 rfl (by decide) ao n cap hev bo 1 c hex xs h1 _ h2 rfl (by simp [hu0, hu1, hu2])
    (by omega) (by omega) ?_
  intro ao' cap' w' r1 r2 r3 _ r5
  exact hK ao' cap' w' r1 r2 r3

/-- What bytes say of options. -/
def optsOf (l : List UInt8) : Option (List Opt) :=
  match l with
  | a :: b :: t :: c :: r => if 32 ≤ c.toNat ∨ r.length < 4 * (c.toNat % 32) then none else (optsOf (r.drop (4 * (c.toNat % 32)))).map (⟨a.toNat * 256 + b.toNat, t, r.take (4 * (c.toNat % 32))⟩ :: ·)
  | [] => some []
  | _ => none
termination_by l.length
decreasing_by simp; omega

theorem optsOf_step {l : List UInt8} {a b t c : UInt8} {r : List UInt8} (h : l = a :: b :: t :: c :: r) :
    optsOf l = if 32 ≤ c.toNat ∨ r.length < 4 * (c.toNat % 32) then none else (optsOf (r.drop (4 * (c.toNat % 32)))).map (⟨a.toNat * 256 + b.toNat, t, r.take (4 * (c.toNat % 32))⟩ :: ·) := by
  subst h
  rw [optsOf]
theorem optsOf_nil : optsOf [] = some [] := by rw [optsOf]

end Go.Proofs.Ythoppkklooomgaa