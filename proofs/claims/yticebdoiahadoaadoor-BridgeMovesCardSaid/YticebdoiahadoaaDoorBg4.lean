/- bridge: its memory. -/
import Derived.Test.YticebdoiahadoaaDoorBgA
namespace Go.Proofs.YticebdoiahadoaaDoor
open Go.RowKit
set_option linter.unusedVariables false
set_option linter.unusedSimpArgs false
/-- Where a segment lies. -/
structure SgM where
  sb : Nat
  tb : Nat
  mb : Nat
  L : FL
  po : Option Addr
  pn : Nat
  pc : Nat
  qo : Option Addr
  qn : Nat
  qc : Nat
deriving Inhabited
structure SgAt (w : World) (room life : Int) (m : SgM) (s : AS) : Prop where
  box : w.heap[m.sb]? = some (.cells #[.pointer (some ⟨m.tb, 0, none⟩), .slice m.po m.pn m.pc, .slice m.qo m.qn m.qc] 53 (0, 0))
  fd : Fd w m.tb m.mb room life m.L
  ab : Ab m.L s.A
  p : OI w m.po m.pn m.pc s.ps
  q : OI w m.qo m.qn m.qc s.qs
/-- All its blocks. -/
def SgM.all (m : SgM) (k : Nat) : Prop := k = m.sb ∨ k = m.tb ∨ k = m.mb ∨ (∃ p ∈ m.L, k = p.2.1) ∨ At m.po k ∨ At m.qo k
theorem SgAt.lt {w : World} {room life : Int} {m : SgM} {s : AS} (h : SgAt w room life m s) {k : Nat} (hk : m.all k) : k < w.heap.size := by
  rcases hk with rfl | rfl | rfl | ⟨p, hp, rfl⟩ | ⟨a, ha, rfl⟩ | ⟨a, ha, rfl⟩
  · exact lt_of_heap h.box
  · exact lt_of_heap h.fd.box
  · exact h.fd.mp.lt
  · exact h.fd.lt p hp
  · exact h.p.2.lt a ha
  · exact h.q.2.lt a ha
theorem SgAt.fr {w w' : World} {S : Nat → Prop} {room life : Int} {m : SgM} {s : AS} (h : SgAt w room life m s) (hf : Fr S w w') (hs : ∀ k, m.all k → ¬ S k) : SgAt w' room life m s :=
  ⟨hf.heap h.box (hs _ (.inl rfl)), h.fd.fr hf (hs _ (.inr (.inl rfl))) (hs _ (.inr (.inr (.inl rfl)))) (fun p hp => hs _ (.inr (.inr (.inr (.inl ⟨p, hp, rfl⟩))))), h.ab,
    h.p.fr hf (fun a ha => hs _ (.inr (.inr (.inr (.inr (.inl ⟨a, ha, rfl⟩)))))), h.q.fr hf (fun a ha => hs _ (.inr (.inr (.inr (.inr (.inr ⟨a, ha, rfl⟩))))))⟩
theorem SgAt.no {w w' : World} {room life : Int} {m : SgM} {s : AS} (h : SgAt w room life m s) (hf : Fr No w w') : SgAt w' room life m s := h.fr hf (fun _ _ h => h)
/-- The cells of the segment's block. -/
theorem SgAt.cells {w : World} {room life : Int} {m : SgM} {s : AS} (h : SgAt w room life m s) : w.cell? ⟨m.sb, 0, none⟩ = some (.pointer (some ⟨m.tb, 0, none⟩)) ∧ w.cell? ⟨m.sb, 1, none⟩ = some (.slice m.po m.pn m.pc) ∧ w.cell? ⟨m.sb, 2, none⟩ = some (.slice m.qo m.qn m.qc) :=
  ⟨by rw [cell_of_row w _ 0 _ _ _ h.box]; rfl, by rw [cell_of_row w _ 1 _ _ _ h.box]; rfl, by rw [cell_of_row w _ 2 _ _ _ h.box]; rfl⟩
theorem types_ne : 53 ≠ 63 ∧ 53 ≠ 66 ∧ 53 ≠ 3 ∧ 53 ≠ 50 ∧ 63 ≠ 50 ∧ 66 ≠ 50 ∧ 3 ≠ 50 ∧ 3 ≠ 63 ∧ 3 ≠ 66 := by decide
/-- The segment's own block is none of its other ones. -/
theorem SgAt.sbne {w : World} {room life : Int} {m : SgM} {s : AS} (h : SgAt w room life m s) : m.sb ≠ m.tb ∧ m.sb ≠ m.mb ∧ (∀ p ∈ m.L, p.2.1 ≠ m.sb) ∧ (∀ a, m.po = some a → a.block ≠ m.sb) ∧ (∀ a, m.qo = some a → a.block ≠ m.sb) := by
  obtain ⟨t1, t2, t3, -⟩ := types_ne
  have hb := h.box
  refine ⟨fun e => ?_, fun e => ?_, fun p hp e => ?_, fun a ha e => ?_, fun a ha e => ?_⟩
  · have := h.fd.box; rw [← e, hb] at this; simp at this
  · obtain ⟨es, c, hm, -⟩ := h.fd.mp.ex; rw [← e, hb] at hm; cases hm
  · have := h.fd.ent p hp; unfold EnAt at this; rw [e, hb] at this; simp at this
  · obtain ⟨-, cur, h2, -⟩ := h.p.2.row a ha; rw [e, hb] at h2; simp at h2
  · obtain ⟨-, cur, h2, -⟩ := h.q.2.row a ha; rw [e, hb] at h2; simp at h2
/-- No part of a segment is the bridge's own block, nor another map than its base's. -/
theorem SgAt.bbne {w : World} {room life : Int} {m : SgM} {s : AS} (h : SgAt w room life m s) {bb : Nat} {cs : Array Value} (hb : w.heap[bb]? = some (.cells cs 50 (0, 0))) : ¬ m.all bb := by
  obtain ⟨t1, t2, t3, t4, t5, t6, t7, -⟩ := types_ne
  rintro (e | e | e | ⟨p, hp, e⟩ | ⟨a, ha, e⟩ | ⟨a, ha, e⟩)
  · have := h.box; rw [← e, hb] at this; simp at this
  · have := h.fd.box; rw [← e, hb] at this; simp at this
  · obtain ⟨es, c, hm, -⟩ := h.fd.mp.ex; rw [← e, hb] at hm; cases hm
  · have := h.fd.ent p hp; unfold EnAt at this; rw [← e, hb] at this; simp at this
  · obtain ⟨-, cur, h2, -⟩ := h.p.2.row a ha; rw [e, hb] at h2; simp at h2
  · obtain ⟨-, cur, h2, -⟩ := h.q.2.row a ha; rw [e, hb] at h2; simp at h2
theorem SgAt.nbne {w : World} {room life : Int} {m : SgM} {s : AS} (h : SgAt w room life m s) {nb : Nat} {es : Array MapEntry} {c : Nat} (hb : w.heap[nb]? = some (.map es c)) (hne : m.mb ≠ nb) : ¬ m.all nb := by
  rintro (e | e | e | ⟨p, hp, e⟩ | ⟨a, ha, e⟩ | ⟨a, ha, e⟩)
  · have := h.box; rw [← e, hb] at this; cases this
  · have := h.fd.box; rw [← e, hb] at this; cases this
  · exact hne e.symm
  · have := h.fd.ent p hp; unfold EnAt at this; rw [← e, hb] at this; cases this
  · obtain ⟨-, cur, h2, -⟩ := h.p.2.row a ha; rw [e, hb] at h2; cases h2
  · obtain ⟨-, cur, h2, -⟩ := h.q.2.row a ha; rw [e, hb] at h2; cases h2

def okI (x : Int) : Prop := -9223372036854775808 ≤ x ∧ x ≤ 9223372036854775807
theorem keI : KE Tryd.prog 3 okI evI := by
  refine ⟨Go.Maps.int_keyed Tryd.underlying3, ?_, ?_⟩
  · intro x hx
    have hk : Tryd.prog.keyType 3 = true := by kernel_rfl
    have hw : (Lit.int .i64 x).wf = true := by
      simp only [Lit.wf, IntKind.min, IntKind.max, IntKind.signed, IntKind.bits]
      obtain ⟨h1, h2⟩ := hx
      simp; omega
    refine ⟨.int .i64 x, ?_⟩
    unfold keyOf evI
    rw [Tryd.underlying3]
    simp [hw, mapKey, Tryd.underlying3]
  · intro x y h
    simpa [evI] using h

/-- Where a bridge lies. -/
structure BrM where
  bb : Nat
  nb : Nat
  ms : List SgM
def BrM.at (B : BrM) (n : Int) : SgM := B.ms.getD n.toNat default
structure BrAt (w : World) (room life : Int) (B : BrM) (X : AB) : Prop where
  box : w.heap[B.bb]? = some (.cells (B.ms.map (fun m : SgM => Value.pointer (some ⟨m.sb, 0, none⟩)) ++ [Value.map (some B.nb)]).toArray 50 (0, 0))
  mlen : B.ms.length = 8
  seg : ∀ n, okSeg n → SgAt w room life (B.at n) (X.at n)
  mp : Mp okI evI evI w B.nb X.bd
  dis : ∀ n n', okSeg n → okSeg n' → n ≠ n' → ∀ k, (B.at n).all k → ¬ (B.at n').all k
  nbd : ∀ n, okSeg n → (B.at n).mb ≠ B.nb
  good : Good X
/-- All its blocks. -/
def BrM.all (B : BrM) (k : Nat) : Prop := k = B.bb ∨ k = B.nb ∨ ∃ n, okSeg n ∧ (B.at n).all k
theorem BrAt.lt {w : World} {room life : Int} {B : BrM} {X : AB} (h : BrAt w room life B X) {k : Nat} (hk : B.all k) : k < w.heap.size := by
  rcases hk with rfl | rfl | ⟨n, hn, hk⟩
  · exact lt_of_heap h.box
  · exact h.mp.lt
  · exact (h.seg n hn).lt hk
theorem BrAt.fr {w w' : World} {S : Nat → Prop} {room life : Int} {B : BrM} {X : AB} (h : BrAt w room life B X) (hf : Fr S w w') (hs : ∀ k, B.all k → ¬ S k) : BrAt w' room life B X :=
  ⟨hf.heap h.box (hs _ (.inl rfl)), h.mlen, fun n hn => (h.seg n hn).fr hf (fun k hk => hs k (.inr (.inr ⟨n, hn, hk⟩))), h.mp.fr hf (hs _ (.inr (.inl rfl))), h.dis, h.nbd, h.good⟩
theorem BrAt.no {w w' : World} {room life : Int} {B : BrM} {X : AB} (h : BrAt w room life B X) (hf : Fr No w w') : BrAt w' room life B X := h.fr hf (fun _ _ h => h)
theorem BrM.getD {B : BrM} (hl : B.ms.length = 8) {n : Int} (hn : okSeg n) : B.ms[n.toNat]? = some (B.at n) := by
  obtain ⟨h1, h2⟩ := hn
  unfold BrM.at
  rw [List.getD_eq_getElem?_getD, List.getElem?_eq_getElem (by omega)]; rfl
theorem BrAt.cell {w : World} {room life : Int} {B : BrM} {X : AB} (h : BrAt w room life B X) {n : Int} (hn : okSeg n) : w.cell? ⟨B.bb, n.toNat, none⟩ = some (.pointer (some ⟨(B.at n).sb, 0, none⟩)) := by
  rw [cell_of_row w _ _ _ _ _ h.box]
  have h1 := BrM.getD h.mlen hn
  have h2 : n.toNat < 8 := by obtain ⟨a, b⟩ := hn; omega
  simp only [List.getElem?_toArray]
  rw [List.getElem?_append_left (by rw [List.length_map, h.mlen]; exact h2), List.getElem?_map, h1]; rfl
theorem BrAt.mcell {w : World} {room life : Int} {B : BrM} {X : AB} (h : BrAt w room life B X) : w.cell? ⟨B.bb, 8, none⟩ = some (.map (some B.nb)) := by
  rw [cell_of_row w _ _ _ _ _ h.box]
  simp only [List.getElem?_toArray]
  rw [List.getElem?_append_right (by rw [List.length_map, h.mlen]; exact Nat.le_refl _), List.length_map, h.mlen]; rfl
def BrM.set (B : BrM) (n : Int) (m : SgM) : BrM := ⟨B.bb, B.nb, B.ms.set n.toNat m⟩
theorem BrM.at_set {B : BrM} (hl : B.ms.length = 8) {n k : Int} (hn : okSeg n) (hk : okSeg k) (m : SgM) : (B.set n m).at k = if k = n then m else B.at k := by
  obtain ⟨h1, h2⟩ := hn
  obtain ⟨h3, h4⟩ := hk
  unfold BrM.at BrM.set
  rw [List.getD_eq_getElem?_getD, List.getD_eq_getElem?_getD, List.getElem?_set]
  by_cases h : k = n
  · subst h
    rw [if_pos rfl, if_pos rfl, if_pos (by omega)]; rfl
  · rw [if_neg h, if_neg (by omega)]
/-- A segment turns, and the map of the bound ports. -/
theorem BrAt.step {w w' : World} {S : Nat → Prop} {room life : Int} {B : BrM} {X : AB} (h : BrAt w room life B X) {n : Int} (hn : okSeg n) (hf : Fr S w w') (hS : ∀ k, k < w.heap.size → S k → (B.at n).all k ∨ k = B.nb) {m : SgM} {s : AS} (hs : SgAt w' room life m s)
    (hsb : m.sb = (B.at n).sb) (hmb : m.mb = (B.at n).mb) (hall : ∀ k, m.all k → (B.at n).all k ∨ w.heap.size ≤ k) {bd : List (Int × Int)} (hm : Mp okI evI evI w' B.nb bd) (hg : Good ⟨bd, X.sg.set n.toNat s⟩) :
    BrAt w' room life (B.set n m) ⟨bd, X.sg.set n.toNat s⟩ := by
  have hbS : ¬ S B.bb := by
    intro h1
    rcases hS _ (lt_of_heap h.box) h1 with h2 | h2
    · exact (h.seg n hn).bbne h.box h2
    · obtain ⟨es, c, hm, -⟩ := h.mp.ex
      have := h.box; rw [h2, hm] at this; cases this
  have hms : (B.ms.set n.toNat m).map (fun m : SgM => Value.pointer (some ⟨m.sb, 0, none⟩)) = B.ms.map (fun m : SgM => Value.pointer (some ⟨m.sb, 0, none⟩)) := by
    rw [List.map_set, hsb]
    have h1 := BrM.getD h.mlen hn
    apply List.ext_getElem?
    intro i
    rw [List.getElem?_set]
    split
    · rename_i hi
      subst hi
      rw [List.getElem?_map, h1]
      simp only [List.length_map, Option.map_some]
      rw [if_pos (List.getElem?_eq_some_iff.1 h1).1]
    · rfl
  have hother : ∀ k, okSeg k → k ≠ n → SgAt w' room life (B.at k) (X.at k) := by
    intro k hk hkn
    refine (h.seg k hk).fr hf (fun j hj hSj => ?_)
    rcases hS j ((h.seg k hk).lt hj) hSj with h2 | h2
    · exact h.dis k n hk hn hkn j hj h2
    · subst h2
      obtain ⟨es, c, hm, -⟩ := h.mp.ex
      exact (h.seg k hk).nbne hm (h.nbd k hk) hj
  refine ⟨?_, by simp [BrM.set, h.mlen], ?_, hm, ?_, ?_, hg⟩
  · show w'.heap[B.bb]? = _
    rw [show (B.set n m).ms = B.ms.set n.toNat m from rfl, hms]
    exact hf.heap h.box hbS
  · intro k hk
    rw [BrM.at_set h.mlen hn hk]
    have e : (⟨bd, X.sg.set n.toNat s⟩ : AB).at k = if k = n then s else X.at k := at_put h.good.len hn hk s
    rw [e]
    by_cases hkn : k = n
    · rw [if_pos hkn, if_pos hkn]; exact hs
    · rw [if_neg hkn, if_neg hkn]; exact hother k hk hkn
  · intro i j hi hj hij k
    rw [BrM.at_set h.mlen hn hi, BrM.at_set h.mlen hn hj]
    by_cases hin : i = n
    · rw [if_pos hin, if_neg (fun e => hij (hin.trans e.symm))]
      intro h1 h2
      rcases hall k h1 with h3 | h3
      · exact h.dis n j hn hj (fun e => hij (hin.trans e)) k h3 h2
      · have := (h.seg j hj).lt h2; omega
    · rw [if_neg hin]
      by_cases hjn : j = n
      · rw [if_pos hjn]
        intro h1 h2
        rcases hall k h2 with h3 | h3
        · exact h.dis i n hi hn hin k h1 h3
        · have := (h.seg i hi).lt h1; omega
      · rw [if_neg hjn]; exact h.dis i j hi hj hij k
  · intro k hk
    rw [BrM.at_set h.mlen hn hk]
    show (if k = n then m else B.at k).mb ≠ B.nb
    split
    · rw [hmb]; exact h.nbd n hn
    · exact h.nbd k hk
/-- The blocks of the new bridge: those of the old one, or new; its segments lie where they lay. -/
structure BrM.sub (w : World) (B B' : BrM) : Prop where
  bb : B'.bb = B.bb
  nb : B'.nb = B.nb
  sb : ∀ n, okSeg n → (B'.at n).sb = (B.at n).sb
  tb : ∀ n, okSeg n → (B'.at n).tb = (B.at n).tb
  all : ∀ k, B'.all k → B.all k ∨ w.heap.size ≤ k
theorem BrM.sub_refl (w : World) (B : BrM) : BrM.sub w B B := ⟨rfl, rfl, fun _ _ => rfl, fun _ _ => rfl, fun _ h => .inl h⟩
theorem BrM.sub.trans {w w' : World} {B B' B'' : BrM} (h : BrM.sub w B B') (k : BrM.sub w' B' B'') (hs : w.heap.size ≤ w'.heap.size) : BrM.sub w B B'' :=
  ⟨k.bb.trans h.bb, k.nb.trans h.nb, fun n hn => (k.sb n hn).trans (h.sb n hn), fun n hn => (k.tb n hn).trans (h.tb n hn), fun i hi => by
    rcases k.all i hi with h1 | h1
    · exact h.all i h1
    · exact .inr (Nat.le_trans hs h1)⟩
theorem BrM.sub_set {w : World} {B : BrM} (hl : B.ms.length = 8) {n : Int} (hn : okSeg n) {m : SgM} (hsb : m.sb = (B.at n).sb) (htb : m.tb = (B.at n).tb) (hall : ∀ k, m.all k → (B.at n).all k ∨ w.heap.size ≤ k) : BrM.sub w B (B.set n m) := by
  refine ⟨rfl, rfl, fun j hj => ?_, fun j hj => ?_, ?_⟩
  · rw [BrM.at_set hl hn hj]
    split
    · rename_i e; subst e; exact hsb
    · rfl
  · rw [BrM.at_set hl hn hj]
    split
    · rename_i e; subst e; exact htb
    · rfl
  rintro k (h | h | ⟨j, hj, h⟩)
  · exact .inl (.inl h)
  · exact .inl (.inr (.inl h))
  · rw [BrM.at_set hl hn hj] at h
    split at h
    · rcases hall k h with h2 | h2
      · exact .inl (.inr (.inr ⟨n, hn, h2⟩))
      · exact .inr h2
    · exact .inl (.inr (.inr ⟨j, hj, h⟩))
end Go.Proofs.YticebdoiahadoaaDoor