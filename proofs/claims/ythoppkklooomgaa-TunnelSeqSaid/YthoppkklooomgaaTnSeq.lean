/- TunnelSeq: the plain law; rows of packets. -/
import Derived.Test.YthoppkklooomgaaSh14
import Derived.Test.YthoppkklooomgaaBits
import Derived.Laws.OwnMore
namespace Go.Proofs.Ythoppkklooomgaa
open Go.RowKit
set_option linter.unusedVariables false
set_option linter.unusedSimpArgs false
def T5 (q : Bool) : Tn := ⟨3, 1, 2, 5, 0, [], [], false, q⟩
def U5 (q : Bool) : Tn := ⟨3, 2, 1, 5, 0, [], [], false, q⟩
def A5 (q : Bool) (i : Nat) : TA := ⟨[(0, ⟨T5 q, i, none⟩)], 1⟩
def B5 (q : Bool) (st : Option Nat) : TA := ⟨[(0, ⟨U5 q, 0, st⟩)], 1⟩
def zeros (n : Nat) : List UInt8 := List.replicate n 0
theorem zeros_length (n : Nat) : (zeros n).length = n := List.length_replicate
def P5 (q : Bool) (i : Nat) : Pk := ⟨1, 2, 47, 0, 0, greOut false true ((5 : Nat) : Int) q (i : Int) (zeros (14 + i))⟩
theorem s5a (q : Bool) : TA.add ⟨[], 0⟩ (T5 q) = (A5 q 0, 0, 0) := by cases q <;> rfl
theorem s5b (q : Bool) : TA.add ⟨[], 0⟩ (U5 q) = (B5 q none, 0, 0) := by cases q <;> rfl
theorem siz5 {i : Nat} (hi : i < 30) : sizN (zeros (14 + i)) = 0 := by
  unfold sizN; rw [zeros_length, if_neg (by omega), if_neg (by omega)]
theorem s5c (q : Bool) {i : Nat} (hi : i < 30) : (A5 q i).encap 0 (zeros (14 + i)) = (A5 q (i + 1), .ok (P5 q i)) := by
  unfold TA.encap
  rw [show mget (A5 q i).l 0 = some ⟨T5 q, i, none⟩ from rfl]
  simp only
  rw [if_pos (siz5 hi)]
  have h1 : (i + 1) % 4294967296 = i + 1 := by omega
  have h2 : pkT (T5 q) i (zeros (14 + i)) = P5 q i := by unfold pkT encT P5; simp [T5]
  rw [h2]
  unfold nextT
  simp only
  rw [h1]
  rfl
theorem take5 (q : Bool) {k : Nat} (hk : k < 30) : takeP (P5 q k) = .ok 3 5 true [] q (if q then k else 0) (zeros (14 + k)) := by
  unfold takeP
  rw [if_neg (by unfold P5; simp), if_neg (by unfold P5; simp), if_pos (by rfl)]
  rw [show (P5 q k).b = greOut false true ((5 : Nat) : Int) q (k : Int) (zeros (14 + k)) from rfl, gDec_out false true q 5 k (by omega) (by omega) (zeros (14 + k)) (by rw [zeros_length]; omega) (by rw [zeros_length]; omega)]
  rfl
theorem find5 (q : Bool) (st : Option Nat) : (B5 q st).find 3 2 1 5 true = .inl (0, ⟨U5 q, 0, st⟩) := by cases q <;> rfl
theorem acc5_no {l k : Nat} (hl : l < 30) (h : k ≤ l) : acc (some l) k = false := by
  unfold acc
  by_cases he : k = l
  · subst he; simp [show (k + 4294967296 - k) % 4294967296 = 0 by omega]
  · have : (k + 4294967296 - l) % 4294967296 = k + 4294967296 - l := by omega
    simp [this]; omega
theorem acc5_yes {l k : Nat} (hk : k < 30) (h : l < k) : acc (some l) k = true := by
  unfold acc
  have : (k + 4294967296 - l) % 4294967296 = k - l := by omega
  simp [this]; omega
theorem s5late {l k : Nat} (hl : l < 30) (h : k ≤ l) : (B5 true (some l)).decap (P5 true k) = (B5 true (some l), .no [tunnelS] 13) := by
  unfold TA.decap
  rw [take5 true (by omega)]
  simp only
  rw [show (P5 true k).dst = 2 from rfl, show (P5 true k).src = 1 from rfl, find5]
  simp only
  have hb : TE.behind ⟨U5 true, 0, some l⟩ [] true k = ⟨U5 true, 0, some l⟩ := by
    unfold TE.behind accNext
    rw [acc5_no hl h]; simp
  have ha : TE.accepts ⟨U5 true, 0, some l⟩ [] true k = 13 := by
    unfold TE.accepts
    simp only
    rw [acc5_no hl h]
    rfl
  simp only [if_true]
  rw [hb, ha, if_neg (by decide)]
  rfl
theorem s5ok (q : Bool) {st : Option Nat} {k : Nat} (hk : k < 30) (h0 : q = false → st = none) (h1 : ∀ l, st = some l → l < k) :
    (B5 q st).decap (P5 q k) = (B5 q (if q then some k else none), .ok 0 (zeros (14 + k))) := by
  have hac : acc st k = true := by
    cases st with
    | none => rfl
    | some l => exact acc5_yes hk (h1 l rfl)
  unfold TA.decap
  rw [take5 q hk]
  simp only
  rw [show (P5 q k).dst = 2 from rfl, show (P5 q k).src = 1 from rfl, find5]
  simp only
  cases q with
  | true =>
    have hb : TE.behind ⟨U5 true, 0, st⟩ [] true k = ⟨U5 true, 0, some k⟩ := by
      unfold TE.behind accNext
      rw [hac]; simp [U5]
    have ha : TE.accepts ⟨U5 true, 0, st⟩ [] true k = 0 := by
      unfold TE.accepts
      simp only
      rw [hac]
      rfl
    simp only [if_true]
    rw [hb, ha, if_pos rfl]
    rfl
  | false =>
    obtain rfl := h0 rfl
    rfl
/-- A packet's cells. -/
def pkC (p : Pk) (g c : Nat) : List Value := [.int .u32 (p.src : Int), .int .u32 (p.dst : Int), .int .u8 (p.proto : Int), .int .u16 (p.sport : Int), .int .u16 (p.dport : Int), .slice (some ⟨g, 0, none⟩) p.b.length c]
/-- The packets' cells. -/
def pksC (q : Bool) : List (Nat × Nat) → Nat → List Value
  | [], _ => []
  | g :: gs, i => pkC (P5 q i) g.1 g.2 ++ pksC q gs (i + 1)
theorem pksC_snoc (q : Bool) (g : Nat × Nat) : ∀ (gs : List (Nat × Nat)) (i : Nat), pksC q (gs ++ [g]) i = pksC q gs i ++ pkC (P5 q (i + gs.length)) g.1 g.2 := by
  intro gs
  induction gs with
  | nil => intro i; simp [pksC]
  | cons a l ih =>
    intro i
    simp only [List.cons_append, pksC, ih, List.append_assoc, List.length_cons]
    rw [show i + 1 + l.length = i + (l.length + 1) by omega]
theorem pksC_at (q : Bool) : ∀ (gs : List (Nat × Nat)) (i k : Nat) (g : Nat × Nat), gs[k]? = some g → ∀ j, j < 6 → (pksC q gs i)[k * 6 + j]? = (pkC (P5 q (i + k)) g.1 g.2)[j]? := by
  intro gs
  induction gs with
  | nil => intro i k g h; simp at h
  | cons a l ih =>
    intro i k g h j hj
    have hl : (pkC (P5 q i) a.1 a.2).length = 6 := rfl
    cases k with
    | zero =>
      simp at h; subst h
      rw [pksC, List.getElem?_append_left (by rw [hl]; omega)]
      simp
    | succ k =>
      rw [pksC, List.getElem?_append_right (by rw [hl]; omega), hl, show (k + 1) * 6 + j - 6 = k * 6 + j by omega, ih (i + 1) k g (by simpa using h) j hj]
      rw [show i + 1 + k = i + (k + 1) by omega]
/-- The row of the packets that were made. -/
structure Pks (X : Nat → Prop) (B : Nat) (w : World) (q : Bool) (lo : Option Addr) (n lc : Nat) (gs : List (Nat × Nat)) : Prop where
  len : gs.length = n
  own : Own w 41 6 lo n lc (pksC q gs 0)
  new : ∀ a, lo = some a → B ≤ a.block ∧ ¬ X a.block
  each : ∀ k g, gs[k]? = some g → OB w 5 (some ⟨g.1, 0, none⟩) (P5 q k).b.length g.2 (P5 q k).b ∧ B ≤ g.1 ∧ ¬ X g.1 ∧ ∀ a, lo = some a → a.block ≠ g.1
theorem Pks.fr {X X' S : Nat → Prop} {B : Nat} {w w' : World} {q : Bool} {lo : Option Addr} {n lc : Nat} {gs : List (Nat × Nat)} (h : Pks X B w q lo n lc gs) (hf : Fr S w w') (hs : ∀ k, k < w.heap.size → B ≤ k → S k → X k) (hx : ∀ k, X' k → X k ∨ w.heap.size ≤ k) : Pks X' B w' q lo n lc gs := by
  have hlo : ∀ a, lo = some a → a.block < w.heap.size := h.own.lt
  refine ⟨h.len, h.own.fr hf (fun a ha hS => (h.new a ha).2 (hs _ (hlo a ha) (h.new a ha).1 hS)), fun a ha => ⟨(h.new a ha).1, fun hX => ?_⟩, fun k g hg => ?_⟩
  · rcases hx _ hX with h1 | h1
    · exact (h.new a ha).2 h1
    · have := hlo a ha; omega
  · obtain ⟨e1, e2, e3, e4⟩ := h.each k g hg
    have hl : g.1 < w.heap.size := e1.2.lt ⟨g.1, 0, none⟩ rfl
    refine ⟨e1.fr hf (fun a ha hS => ?_), e2, fun hX => ?_, e4⟩
    · cases ha; exact e3 (hs _ hl e2 hS)
    · rcases hx _ hX with h1 | h1
      · exact e3 h1
      · omega
theorem Pks.no {X : Nat → Prop} {B : Nat} {w w' : World} {q : Bool} {lo : Option Addr} {n lc : Nat} {gs : List (Nat × Nat)} (h : Pks X B w q lo n lc gs) (hf : Fr No w w') : Pks X B w' q lo n lc gs := h.fr hf (fun _ _ _ h => h.elim) (fun _ h => .inl h)
theorem info_tpacket : (Try.prog.info? 41).map (fun i => (i.zero, i.size, i.bytes)) = some (some (.agg #[.int .u32 0, .int .u32 0, .int .u8 0, .int .u16 0, .int .u16 0, .slice none 0 0]), 6, 40) := by kernel_rfl
/-- append at []tunnel.Packet, of one. -/
theorem wpl_append_pk {w : World} {ops : Array Oper} {rest : List Oper} {o : Oper} {a : Act} {Q : Exit → Act → World → Prop} (s x : Operand)
    (hgd : o.guard = none) (hop : o.op = .call { callee := .builtin .append, args := #[s, x], argTypes := #[56, 56] })
    {ao : Option Addr} {n cap : Nat} (hev : a.eval s = .slice ao n cap) {bo : Option Addr} {c : Nat} (hex : a.eval x = .slice bo 1 c)
    {xs ys : List Value} (h1 : Own w 41 6 ao n cap xs) (h2 : Sl w bo 1 c ys) (hy : ys.length = 6) (hone : ∀ u ∈ ys, u.oneCell' = true) (hb : n ≤ 1000000)
    (hK : ∀ ao' cap' w', Own w' 41 6 ao' (n + 1) cap' (xs ++ ys) → Fr (At ao) w w' → (ao' = ao ∨ ∀ a, ao' = some a → w.heap.size ≤ a.block) →
      wpList Try.prog ops Q rest (a.put o.dst (.slice ao' (n + 1) cap')) w') :
    wpList Try.prog ops Q (o :: rest) a w := by
  obtain ⟨i0, hi, hz0, hz1, hz2⟩ := info_parts info_tpacket
  refine wpList_append_U w hgd s x 56 hop 41 i0 _ 6 40 Try.underlying56 hi hz0 hz1 hz2 rfl (by decide) ao n cap hev bo 1 c hex xs h1 ys h2 (by omega) hone
    (by omega) (by omega) ?_
  intro ao' cap' w' r1 r2 r3 _ r5
  exact hK ao' cap' w' r1 r2 r3
theorem pkC_one (p : Pk) (g c : Nat) : ∀ u ∈ pkC p g c, u.oneCell' = true := by simp [pkC, Value.oneCell']
/-- One packet more. -/
theorem Pks.more {X : Nat → Prop} {B : Nat} {w w' : World} {q : Bool} {lo lo' : Option Addr} {n lc lc' : Nat} {gs : List (Nat × Nat)} {g c : Nat} (h : Pks X B w q lo n lc gs) (hB : B ≤ w.heap.size) (hX : ∀ k, X k → k < w.heap.size)
    (ho : Own w' 41 6 lo' (n + 1) lc' (pksC q gs 0 ++ pkC (P5 q n) g c)) (hf : Fr (At lo) w w') (hd : lo' = lo ∨ ∀ a, lo' = some a → w.heap.size ≤ a.block)
    (hg : OB w 5 (some ⟨g, 0, none⟩) (P5 q n).b.length c (P5 q n).b) (hg1 : B ≤ g) (hg2 : ¬ X g) (hg3 : ∀ a, lo = some a → a.block ≠ g) : Pks X B w' q lo' (n + 1) lc' (gs ++ [(g, c)]) := by
  have hl := h.len
  have hgl : g < w.heap.size := hg.2.lt ⟨g, 0, none⟩ rfl
  have hnew : ∀ a, lo' = some a → (B ≤ a.block ∧ ¬ X a.block) ∧ a.block ≠ g ∧ ∀ (k : Nat) (g' : Nat × Nat), gs[k]? = some g' → a.block ≠ g'.1 := by
    intro a ha
    rcases hd with rfl | hd
    · exact ⟨h.new a ha, hg3 a ha, fun k g' hk => (h.each k g' hk).2.2.2 a ha⟩
    · have := hd a ha
      refine ⟨⟨by omega, fun hx => by have := hX _ hx; omega⟩, by omega, fun k g' hk => ?_⟩
      have : g'.1 < w.heap.size := (h.each k g' hk).1.2.lt ⟨g'.1, 0, none⟩ rfl
      omega
  refine ⟨by simp [hl], by rw [pksC_snoc, Nat.zero_add, hl]; exact ho, fun a ha => (hnew a ha).1, fun k g' hk => ?_⟩
  by_cases hlt : k < gs.length
  · rw [List.getElem?_append_left hlt] at hk
    obtain ⟨e1, e2, e3, e4⟩ := h.each k g' hk
    exact ⟨e1.fr hf (fun a ha hS => by cases ha; obtain ⟨a', ha', hb⟩ := hS; exact e4 a' ha' hb), e2, e3, fun a ha => (hnew a ha).2.2 k g' hk⟩
  · have hk' : k = n := by
      have := (List.getElem?_eq_some_iff.1 hk).1
      simp at this; omega
    subst hk'
    rw [← hl] at hk
    simp at hk
    subst hk
    exact ⟨hg.fr hf (fun a ha hS => by cases ha; obtain ⟨a', ha', hb⟩ := hS; exact hg3 a' ha' hb), hg1, hg2, fun a ha => (hnew a ha).2.1⟩
theorem mkN (w : World) {n : Nat} (hn : n ≤ 1000000) : (Instr.makeSlice 36 (.int .i64 (n : Int)) (.int .i64 (n : Int))).run Try.prog w =
    .ok (.slice (some ⟨w.heap.size, 0, none⟩) n n) (w.alloc (.cells (madeCells #[.int .u8 0] n) 5)) := by
  obtain ⟨i0, hi, hz0, hz1, hz2⟩ := info_parts info_u8
  have := run_makeSlice (P := Try.prog) w 36 5 i0 _ Try.underlying36 hi hz0 .i64 .i64 (n : Int) (n : Int) (by omega) (by omega) (by rw [hz1]; omega) (by rw [hz2]; omega) (by omega)
  rw [this, hz1]
  simp [Value.cells]
theorem ob_zeros (w : World) {n : Nat} (hn : n ≤ 1000000) : OB (w.alloc (.cells (madeCells #[.int .u8 0] n) 5)) 5 (some ⟨w.heap.size, 0, none⟩) n n (zeros n) :=
  OB.made (zeros n) (by rw [zeros_length]; omega) (by rw [toList_madeCells_one]; simp [bytesV, zeros, byteV]) (zeros_length n).symm rfl
/-- Numbers that are read. -/
def Zs (w : World) (ao : Option Addr) (n cap : Nat) (xs : List Int) : Prop := n = xs.length ∧ Sl w ao n cap (xs.map fun (x : Int) => Value.int .i64 x)
theorem Zs.no {w w' : World} {ao : Option Addr} {n cap : Nat} {xs : List Int} (h : Zs w ao n cap xs) (hf : Fr No w w') : Zs w' ao n cap xs := ⟨h.1, h.2.no hf⟩
theorem Zs.at {w : World} {ao : Option Addr} {n cap : Nat} {xs : List Int} (h : Zs w ao n cap xs) {i : Nat} (hi : i < n) : ∃ g off x, ao = some ⟨g, off, none⟩ ∧ w.cell? ⟨g, off + i, none⟩ = some (.int .i64 x) := by
  obtain ⟨h1, h2⟩ := h
  cases ao with
  | none => have := h2.nocap rfl; have := h2.le; omega
  | some a =>
    have c := h2.cell a rfl i (.int .i64 (xs[i]'(by omega))) (by rw [List.getElem?_map, List.getElem?_eq_getElem (by omega)]; rfl)
    have c0 := h2.cell a rfl 0 (.int .i64 (xs[0]'(by omega))) (by rw [List.getElem?_map, List.getElem?_eq_getElem (by omega)]; rfl)
    have hsp : a.spot = none := World.cell?_spot c0
    obtain ⟨ab, aoff, asp⟩ := a
    cases hsp
    rw [Addr.add_lit] at c
    exact ⟨ab, aoff, _, rfl, c⟩
theorem zs_of_row {w : World} {a : Option Addr} {len cap : Nat} {zs : List Int}
    (h : (a = none ∧ len = 0 ∧ cap = 0 ∧ zs = []) ∨ ∃ x, a = some x ∧ len ≤ cap ∧ cap ≤ maxLen ∧ zs.length = cap ∧ (∀ i, i < zs.length → w.cell? (x.add i) = some (.int .i64 (zs.getD i 0))) ∧ ∀ n ∈ zs, (Lit.int .i64 n).wf = true) :
    ∃ us, Zs w a len cap us := by
  rcases h with ⟨rfl, rfl, rfl, rfl⟩ | ⟨x, rfl, h1, h2, h3, h4, h5⟩
  · exact ⟨[], rfl, Sl.nil w⟩
  · refine ⟨zs.take len, by simp; omega, ⟨h1, by unfold maxLen at h2; omega, fun h => (by cases h), fun a ha j u hu => ?_⟩⟩
    cases ha
    simp only [List.getElem?_map, Option.map_eq_some_iff] at hu
    obtain ⟨z, hz, rfl⟩ := hu
    rw [List.getElem?_take] at hz
    split at hz
    · have hj : j < zs.length := (List.getElem?_eq_some_iff.1 hz).1
      rw [h4 j hj]
      have e : zs.getD j 0 = z := by simp [List.getD, hz]
      rw [e]
    · cases hz
theorem seq_add {a : Addr} (hs : a.spot = none) (k : Nat) : a.add k = ⟨a.block, a.off + k, none⟩ := by
  obtain ⟨b, o, s⟩ := a
  simp only at hs
  subst hs
  exact Addr.add_lit _ _ _
theorem Pks.cells {X : Nat → Prop} {B : Nat} {w : World} {q : Bool} {lo : Option Addr} {n lc : Nat} {gs : List (Nat × Nat)} (h : Pks X B w q lo n lc gs) {k : Nat} (hk : k < n) : ∃ lb loff g c, lo = some ⟨lb, loff, none⟩ ∧ gs[k]? = some (g, c) ∧
    w.cell? ⟨lb, loff + k * 6, none⟩ = some (.int .u32 ((P5 q k).src : Int)) ∧ w.cell? ⟨lb, loff + k * 6 + 1, none⟩ = some (.int .u32 ((P5 q k).dst : Int)) ∧ w.cell? ⟨lb, loff + k * 6 + 2, none⟩ = some (.int .u8 ((P5 q k).proto : Int)) ∧
    w.cell? ⟨lb, loff + k * 6 + 3, none⟩ = some (.int .u16 ((P5 q k).sport : Int)) ∧ w.cell? ⟨lb, loff + k * 6 + 4, none⟩ = some (.int .u16 ((P5 q k).dport : Int)) ∧ w.cell? ⟨lb, loff + k * 6 + 5, none⟩ = some (.slice (some ⟨g, 0, none⟩) (P5 q k).b.length c) := by
  have hl := h.len
  obtain ⟨p, hp⟩ : ∃ p, gs[k]? = some p := ⟨gs[k]'(by omega), List.getElem?_eq_getElem (by omega)⟩
  obtain ⟨p0, hp0⟩ : ∃ p, gs[0]? = some p := ⟨gs[0]'(by omega), List.getElem?_eq_getElem (by omega)⟩
  obtain ⟨g, c⟩ := p
  have h2 := h.own.sl
  cases lo with
  | none => have := h2.nocap rfl; have := h2.le; omega
  | some a =>
    have c0 := h2.cell a rfl (0 * 6 + 0) (.int .u32 ((P5 q (0 + 0)).src : Int)) (pksC_at q gs 0 0 p0 hp0 0 (by omega))
    have hsp : a.spot = none := World.cell?_spot c0
    have e : ∀ k, a.add k = ⟨a.block, a.off + k, none⟩ := fun k => seq_add hsp k
    have cc := fun j u hj (hu : (pkC (P5 q (0 + k)) g c)[j]? = some u) => h2.cell a rfl (k * 6 + j) u ((pksC_at q gs 0 k (g, c) hp j hj).trans hu)
    simp only [e, ← Nat.add_assoc, Nat.zero_add] at cc
    obtain ⟨ab, aoff, asp⟩ := a
    simp only at hsp
    subst hsp
    exact ⟨ab, aoff, g, c, rfl, hp, cc 0 _ (by omega) rfl, cc 1 _ (by omega) rfl, cc 2 _ (by omega) rfl, cc 3 _ (by omega) rfl, cc 4 _ (by omega) rfl, cc 5 _ (by omega) rfl⟩
theorem P5_len (q : Bool) {k : Nat} (hk : k < 30) : (P5 q k).b.length ≤ 20000 := by
  unfold P5
  simp only
  rw [greOut_length, zeros_length]
  have := greHead_le false true q
  omega
theorem ok5 (q : Bool) : (T5 q).ok ∧ (U5 q).ok := ⟨⟨by simp [T5], by simp [T5], by simp [T5], by simp [T5], by simp [T5], by simp [T5]⟩, ⟨by simp [U5], by simp [U5], by simp [U5], by simp [U5], by simp [U5], by simp [U5]⟩⟩
/-- What came out last. -/
def La (q : Bool) (st : Option Nat) (la : Int) : Prop := (q = true → (st = none ∧ la = -1) ∨ ∃ l : Nat, l < 30 ∧ st = some l ∧ la = l) ∧ (q = false → st = none) ∧ -1 ≤ la ∧ la < 30
def SeqOk (w : World) (e : Ending) (w' : World) : Prop := e = .returned (.bool true) ∧ Fr No w w'
end Go.Proofs.Ythoppkklooomgaa