/- tunnel: the table's memory; New. -/
import Derived.Test.YthoppkklooomgaaTnO
namespace Go.Proofs.Ythoppkklooomgaa
open Go.RowKit
set_option linter.unusedVariables false
set_option linter.unusedSimpArgs false
def okK (x : Int) : Prop := -9223372036854775808 ≤ x ∧ x ≤ 9223372036854775807
def evK (z : Int) : Value := .int .i64 z
def evB (b : Nat) : Value := .pointer (some ⟨b, 0, none⟩)
theorem keK : KE Try.prog 3 okK evK := by
  refine ⟨Go.Maps.int_keyed Try.underlying3, ?_, ?_⟩
  · intro x hx
    have hw : (Lit.int .i64 x).wf = true := by
      simp only [Lit.wf, IntKind.min, IntKind.max, IntKind.signed, IntKind.bits]
      obtain ⟨h1, h2⟩ := hx
      simp; omega
    refine ⟨.int .i64 x, ?_⟩
    unfold keyOf evK
    rw [Try.underlying3]
    simp [hw, mapKey, Try.underlying3]
  · intro x y h
    simpa [evK] using h
theorem zeroTE (w : World) : (zeroValue 70).run Try.prog w = .ok (.pointer none) w := by kernel_rfl

/-- The number that was accepted last, in memory. -/
def LastAt (S : Nat → Prop) (w : World) (lp : Option Addr) : Option Nat → Prop
  | none => lp = none
  | some y => ∃ lb, lp = some ⟨lb, 0, none⟩ ∧ w.heap[lb]? = some (.cells #[.int .u32 (y : Int)] 22 (0, 0)) ∧ S lb
/-- Block eb is that entry. -/
structure EnM where
  oo : Option Addr
  on : Nat
  oc : Nat
  ad : List (Option Addr × Nat)
  ko : Option Addr
  kn : Nat
  kc : Nat
  lp : Option Addr
structure EnAt' (S : Nat → Prop) (w : World) (eb : Nat) (e : TE) (m : EnM) : Prop where
  box : w.heap[eb]? = some (.cells #[.int .i64 e.t.kind, .int .u32 (e.t.loc : Int), .int .u32 (e.t.pee : Int), .int .u32 (e.t.id : Int), .int .i64 e.t.seg, .slice m.oo m.on m.oc, .slice m.ko m.kn m.kc, .bool e.t.sum, .bool e.t.seq, .int .u32 (e.next : Int), .pointer m.lp] 78 (0, 0))
  ow : TnOw S w e.t m.oo m.on m.oc m.ad m.ko m.kn m.kc
  lst : LastAt S w m.lp e.last
  up : S eb
  km : m.kn ≤ mostU
theorem LastAt.fr {S U : Nat → Prop} {w w' : World} {lp : Option Addr} {y : Option Nat} (h : LastAt S w lp y) (hf : Fr U w w') (hs : ∀ k, S k → w.heap[k]? ≠ none → ¬ U k ∨ ∀ t, (∃ cs f, w.heap[k]? = some (.cells cs t f)) → t ≠ 22) : LastAt S w' lp y := by
  cases y with
  | none => exact h
  | some y =>
    obtain ⟨lb, h1, h2, h3⟩ := h
    refine ⟨lb, h1, hf.heap h2 ?_, h3⟩
    rcases hs lb h3 (by rw [h2]; simp) with h | h
    · exact h
    · exact absurd rfl (h 22 ⟨_, _, h2⟩)
/-- Only a table's own blocks are written: its map, its entries, its head. -/
def TbOnly (w : World) (U : Nat → Prop) : Prop := ∀ k, U k → ∀ cs t f, w.heap[k]? = some (.cells cs t f) → t = 78 ∨ t = 69
theorem LastAt.beside {S U : Nat → Prop} {w w' : World} {lp : Option Addr} {y : Option Nat} (h : LastAt S w lp y) (hf : Fr U w w') (hU : TbOnly w U) : LastAt S w' lp y := by
  obtain ⟨-, -, -, -, -, t6, -, -, t9, -⟩ := opt_types
  cases y with
  | none => exact h
  | some y =>
    obtain ⟨lb, h1, h2, h3⟩ := h
    refine ⟨lb, h1, hf.heap h2 (fun hu => ?_), h3⟩
    rcases hU lb hu _ _ _ h2 with h | h
    · exact t6 h
    · exact t9 h
theorem TnOw.beside {S U : Nat → Prop} {w w' : World} {t : Tn} {oo : Option Addr} {on oc : Nat} {ad : List (Option Addr × Nat)} {ko : Option Addr} {kn kc : Nat} (h : TnOw S w t oo on oc ad ko kn kc) (hf : Fr U w w') (hU : TbOnly w U) : TnOw S w' t oo on oc ad ko kn kc := by
  obtain ⟨-, -, -, t4, t5, t6, t7, t8, t9, -⟩ := opt_types
  obtain ⟨h1, h2, h3⟩ := h
  refine ⟨⟨h1.len, h1.adl, h1.own.fr hf (fun a ha hu => ?_), h1.row, fun i o p ho hp => ⟨(h1.ob i o p ho hp).1.fr hf (fun a ha hu => ?_), (h1.ob i o p ho hp).2⟩, h1.dis, h1.cls⟩, h2.fr hf (fun a ha hu => ?_), h3⟩
  · obtain ⟨-, cur, hc, -⟩ := h1.own.row a ha
    rcases hU _ hu _ _ _ hc with h | h
    · exact t4 h
    · exact t7 h
  · obtain ⟨-, cur, hc, -⟩ := (h1.ob i o p ho hp).1.2.row a ha
    rcases hU _ hu _ _ _ hc with h | h
    · exact t5 h
    · exact t8 h
  · obtain ⟨-, cur, hc, -⟩ := h2.2.row a ha
    rcases hU _ hu _ _ _ hc with h | h
    · exact t6 h
    · exact t9 h
theorem EnAt'.beside {S U : Nat → Prop} {w w' : World} {eb : Nat} {e : TE} {m : EnM} (h : EnAt' S w eb e m) (hf : Fr U w w') (hU : TbOnly w U) (hne : ¬ U eb) : EnAt' S w' eb e m :=
  ⟨hf.heap h.box hne, h.ow.beside hf hU, h.lst.beside hf hU, h.up, h.km⟩
theorem EnAt'.fr {S U : Nat → Prop} {w w' : World} {eb : Nat} {e : TE} {m : EnM} (h : EnAt' S w eb e m) (hf : Fr U w w') (hs : ∀ k, S k → ¬ U k) : EnAt' S w' eb e m :=
  ⟨hf.heap h.box (hs _ h.up), h.ow.fr hf hs, h.lst.fr hf (fun k hk _ => .inl (hs k hk)), h.up, h.km⟩
theorem LastAt.mono {S S' : Nat → Prop} {w : World} {lp : Option Addr} {y : Option Nat} (h : LastAt S w lp y) (hs : ∀ k, S k → S' k) : LastAt S' w lp y := by
  cases y with
  | none => exact h
  | some y => obtain ⟨lb, h1, h2, h3⟩ := h; exact ⟨lb, h1, h2, hs _ h3⟩
theorem EnAt'.mono {S S' : Nat → Prop} {w : World} {eb : Nat} {e : TE} {m : EnM} (h : EnAt' S w eb e m) (hs : ∀ k, S k → S' k) : EnAt' S' w eb e m :=
  ⟨h.box, h.ow.mono hs, h.lst.mono hs, hs _ h.up, h.km⟩
def EnAt (S : Nat → Prop) (w : World) (eb : Nat) (e : TE) : Prop := ∃ m, EnAt' S w eb e m
theorem EnAt.lt {S : Nat → Prop} {w : World} {eb : Nat} {e : TE} (h : EnAt S w eb e) : eb < w.heap.size := by
  obtain ⟨m, h⟩ := h; exact lt_of_heap h.box
theorem cells11 {w : World} {b t : Nat} {c0 c1 c2 c3 c4 c5 c6 c7 c8 c9 c10 : Value} {f : Nat × Nat} (h : w.heap[b]? = some (.cells #[c0, c1, c2, c3, c4, c5, c6, c7, c8, c9, c10] t f)) :
    w.cell? ⟨b, 0, none⟩ = some c0 ∧ w.cell? ⟨b, 1, none⟩ = some c1 ∧ w.cell? ⟨b, 2, none⟩ = some c2 ∧ w.cell? ⟨b, 3, none⟩ = some c3 ∧ w.cell? ⟨b, 4, none⟩ = some c4 ∧ w.cell? ⟨b, 5, none⟩ = some c5 ∧ w.cell? ⟨b, 6, none⟩ = some c6 ∧ w.cell? ⟨b, 7, none⟩ = some c7 ∧ w.cell? ⟨b, 8, none⟩ = some c8 ∧ w.cell? ⟨b, 9, none⟩ = some c9 ∧ w.cell? ⟨b, 10, none⟩ = some c10 := by
  refine ⟨?_, ?_, ?_, ?_, ?_, ?_, ?_, ?_, ?_, ?_, ?_⟩ <;> (rw [cell_of_row w b _ _ _ _ h]; rfl)

abbrev TM := List (Int × Nat × TE)
def prT (p : Int × Nat × TE) : Int × Nat := (p.1, p.2.1)
def abT (p : Int × Nat × TE) : Int × TE := (p.1, p.2.2)
/-- A table: block tb; its map: block mb; all that is its own lies in S. -/
structure TbAt (S : Nat → Prop) (w : World) (tb mb : Nat) (L : TM) (A : TA) : Prop where
  box : w.heap[tb]? = some (.cells #[.map (some mb), .int .i64 (A.next : Int)] 69 (0, 0))
  mp : Mp okK evK evB w mb (L.map prT)
  ab : A.l = L.map abT
  ent : ∀ p ∈ L, EnAt S w p.2.1 p.2.2
  dis : (L.map (·.2.1)).Nodup
  ok : A.Ok
  tS : S tb
  mS : S mb
  lt : ∀ k, S k → k < w.heap.size
def Tb (S : Nat → Prop) (w : World) (tb : Nat) (A : TA) : Prop := ∃ mb L, TbAt S w tb mb L A
theorem TbAt.fr {S U : Nat → Prop} {w w' : World} {tb mb : Nat} {L : TM} {A : TA} (h : TbAt S w tb mb L A) (hf : Fr U w w') (hs : ∀ k, S k → ¬ U k) : TbAt S w' tb mb L A :=
  ⟨hf.heap h.box (hs _ h.tS), h.mp.fr hf (hs _ h.mS), h.ab, fun p hp => by obtain ⟨m, hm⟩ := h.ent p hp; exact ⟨m, hm.fr hf hs⟩, h.dis, h.ok, h.tS, h.mS, fun k hk => Nat.lt_of_lt_of_le (h.lt k hk) hf.size⟩
theorem Tb.fr {S U : Nat → Prop} {w w' : World} {tb : Nat} {A : TA} (h : Tb S w tb A) (hf : Fr U w w') (hs : ∀ k, S k → ¬ U k) : Tb S w' tb A := by
  obtain ⟨mb, L, h⟩ := h; exact ⟨mb, L, h.fr hf hs⟩
theorem Tb.no {S : Nat → Prop} {w w' : World} {tb : Nat} {A : TA} (h : Tb S w tb A) (hf : Fr No w w') : Tb S w' tb A := h.fr hf (fun _ _ h => h)
theorem TbAt.no {S : Nat → Prop} {w w' : World} {tb mb : Nat} {L : TM} {A : TA} (h : TbAt S w tb mb L A) (hf : Fr No w w') : TbAt S w' tb mb L A := h.fr hf (fun _ _ h => h)
theorem Tb.lt {S : Nat → Prop} {w : World} {tb : Nat} {A : TA} (h : Tb S w tb A) : ∀ k, S k → k < w.heap.size := by
  obtain ⟨mb, L, h⟩ := h; exact h.lt
theorem TbAt.cells {S : Nat → Prop} {w : World} {tb mb : Nat} {L : TM} {A : TA} (h : TbAt S w tb mb L A) : w.cell? ⟨tb, 0, none⟩ = some (.map (some mb)) ∧ w.cell? ⟨tb, 1, none⟩ = some (.int .i64 (A.next : Int)) :=
  ⟨by rw [cell_of_row w tb 0 _ _ _ h.box]; rfl, by rw [cell_of_row w tb 1 _ _ _ h.box]; rfl⟩
theorem TbAt.nd {S : Nat → Prop} {w : World} {tb mb : Nat} {L : TM} {A : TA} (h : TbAt S w tb mb L A) : (L.map (·.1)).Nodup := by
  have := h.ok.nd; rw [h.ab, List.map_map] at this; exact this
/-- What lies at a number. -/
theorem mget_map {α β γ : Type} [DecidableEq α] (f : β → γ) (l : List (α × β)) (k : α) : mget (l.map fun p => (p.1, f p.2)) k = (mget l k).map f := by
  induction l with
  | nil => rfl
  | cons p l ih =>
    unfold mget at *
    simp only [List.map_cons, List.find?_cons]
    by_cases h : p.1 = k
    · simp [h]
    · simp only [h, decide_false]; exact ih
theorem mget_ab (L : TM) (k : Int) : mget (L.map abT) k = (mget L k).map (·.2) := mget_map _ L k
theorem mget_pr (L : TM) (k : Int) : mget (L.map prT) k = (mget L k).map (·.1) := mget_map _ L k

def NewOk (w : World) (e : Ending) (w' : World) : Prop :=
  ∃ (tb : Nat) (S : Nat → Prop), e = .returned (.pointer (some ⟨tb, 0, none⟩)) ∧ Tb S w' tb ⟨[], 0⟩ ∧ Fr No w w' ∧ ∀ k, S k → w.heap.size ≤ k
theorem tnNew_any (w : World) : Calls Try.prog 10 #[] w (NewOk w) := by
  have hmm := @run_makeMap Try.prog
  go_enter Try.func10, Try.ntmps10
  go_wp2_with fail
  go_ret
  refine ⟨w.heap.size + 1, fun k => w.heap.size ≤ k ∧ k < w.heap.size + 2, by simp, ?_, ((Fr.refl No w).alloc _).alloc _, fun k h => h.1⟩
  have hx : ((w.alloc (.map #[] 0)).alloc (.cells #[.map (some w.heap.size), .int .i64 0] 69)).heap[w.heap.size + 1]? = some (.cells #[.map (some w.heap.size), .int .i64 0] 69 (0, 0)) := by
    have := heap_alloc_new (w.alloc (.map #[] 0)) (.cells #[.map (some w.heap.size), .int .i64 0] 69)
    simpa using this
  refine ⟨w.heap.size, [], hx, (Mp.made w).no ((Fr.refl No _).alloc _), rfl, by simp, by simp, TA.Ok.nil, ⟨by omega, by omega⟩, ⟨by omega, by omega⟩, fun k h => ?_⟩
  have := h.2
  simp
  omega
end Go.Proofs.Ythoppkklooomgaa