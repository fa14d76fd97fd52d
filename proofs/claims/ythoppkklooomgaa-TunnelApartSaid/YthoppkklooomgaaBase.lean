/- Program-independent vocabulary and lemmas: frames of worlds ('Fr'), slices that are read ('Sl'), slices that are owned ('Own'), bytes as cells. -/
import Derived.Test.YthoppkklooomgaaRows
import Derived.WalkKit
import Derived.WalkSpells
import Derived.WalkLawsBesides
import Derived.Lib.Hide
namespace Go.Proofs.Ythoppkklooomgaa
open Go.RowKit
set_option linter.unusedVariables false
/-- Outside the blocks S the old memory is as it was. -/
structure Fr (S : Nat → Prop) (w w' : World) : Prop where
  os : w'.os = w.os
  tape : w'.tape = w.tape
  output : w'.output = w.output
  size : w.heap.size ≤ w'.heap.size
  block : ∀ k, k < w.heap.size → ¬ S k → w'.heap[k]? = w.heap[k]?

/-- No block. -/
def No : Nat → Prop := fun _ => False
/-- The blocks from B on. -/
def Up (B : Nat) : Nat → Prop := fun k => B ≤ k
/-- The block b. -/
def Is (b : Nat) : Nat → Prop := fun k => k = b

theorem Fr.refl (S : Nat → Prop) (w : World) : Fr S w w := ⟨rfl, rfl, rfl, Nat.le_refl _, fun _ _ _ => rfl⟩
theorem Fr.trans {S : Nat → Prop} {a b c : World} (h : Fr S a b) (k : Fr S b c) : Fr S a c :=
  ⟨k.os.trans h.os, k.tape.trans h.tape, k.output.trans h.output, Nat.le_trans h.size k.size, fun i hi hs => (k.block i (by have := h.size; omega) hs).trans (h.block i hi hs)⟩
theorem Fr.mono {S S' : Nat → Prop} {w w' : World} (h : Fr S w w') (hs : ∀ k, k < w.heap.size → S k → S' k) : Fr S' w w' :=
  ⟨h.os, h.tape, h.output, h.size, fun k hk hn => h.block k hk (fun s => hn (hs k hk s))⟩
theorem Fr.of_no {S : Nat → Prop} {w w' : World} (h : Fr No w w') : Fr S w w' := h.mono (fun _ _ h => h.elim)
theorem Fr.up {B : Nat} {w w' : World} (h : Fr (Up B) w w') (hB : w.heap.size ≤ B) : Fr No w w' := h.mono (fun k hk (s : B ≤ k) => absurd hk (by omega))
theorem Fr.upmono {B B' : Nat} {w w' : World} (h : Fr (Up B) w w') (hB : B' ≤ B) : Fr (Up B') w w' := h.mono (fun k _ (s : B ≤ k) => Nat.le_trans hB s)
/-- Two steps, the second one into what the first one made, or into S. -/
theorem Fr.then {S S' : Nat → Prop} {a b c : World} (h : Fr S a b) (k : Fr S' b c) (hs : ∀ i, i < a.heap.size → S' i → S i) : Fr S a c :=
  ⟨k.os.trans h.os, k.tape.trans h.tape, k.output.trans h.output, Nat.le_trans h.size k.size, fun i hi hn => (k.block i (by have := h.size; omega) (fun s => hn (hs i hi s))).trans (h.block i hi hn)⟩
theorem Fr.then_no {S : Nat → Prop} {a b c : World} (h : Fr S a b) (k : Fr No b c) : Fr S a c := h.then k (fun _ _ h => h.elim)
theorem Fr.drew {S : Nat → Prop} {a w : World} (h : Fr S a w) : Fr S a w.drew := ⟨h.os, h.tape, h.output, h.size, h.block⟩
theorem Fr.alloc {S : Nat → Prop} {a w : World} (h : Fr S a w) (o : Obj) : Fr S a (w.alloc o) :=
  h.then_no ⟨rfl, rfl, rfl, by simp, fun k hk _ => Below.heap_alloc _ _ _ hk⟩
theorem Fr.setCell {S : Nat → Prop} {a w : World} (h : Fr S a w) {p : Addr} (hp : S p.block ∨ a.heap.size ≤ p.block) (u : Value) : Fr S a (w.setCell p u) :=
  h.then (S' := Is p.block) ⟨rfl, rfl, rfl, by simp [World.setCell], fun k _ hk => Below.heap_setCell _ _ _ _ hk⟩ (fun i hi (e : i = p.block) => by rcases hp with hp | hp; exact e ▸ hp; omega)
theorem Fr.of_grown {S : Nat → Prop} {w w' : World} {row : Option Nat} (hg : w.grownBy w' row) (hr : ∀ k, row = some k → S k) : Fr S w w' :=
  ⟨hg.os, hg.tape, hg.output, hg.size, fun k hk hn => hg.block k hk (fun e => hn (hr k e.symm))⟩
theorem Fr.cell {S : Nat → Prop} {w w' : World} (h : Fr S w w') {p : Addr} {v : Value} (hc : w.cell? p = some v) (hs : ¬ S p.block) : w'.cell? p = some v :=
  (World.cell?_of_block (w := w) (h.block p.block (World.block_lt_of_cell? w p hc) hs)).trans hc
theorem Fr.frozen {S : Nat → Prop} {w w' : World} (h : Fr S w w') {p : Addr} (hp : p.block < w.heap.size) (hs : ¬ S p.block) : w'.frozen? p = w.frozen? p :=
  World.frozen?_of_block (w := w) (h.block p.block hp hs)
theorem Fr.heap {S : Nat → Prop} {w w' : World} (h : Fr S w w') {k : Nat} {o : Obj} (hc : w.heap[k]? = some o) (hs : ¬ S k) : w'.heap[k]? = some o :=
  (h.block k (Array.getElem?_eq_some_iff.1 hc).1 hs).trans hc
theorem Fr.below {w w' : World} (h : Fr No w w') : Below w.heap.size w w' := ⟨h.os, h.tape, h.output, h.size, fun k hk => h.block k hk (fun h => h.elim)⟩
theorem Fr.of_below {B : Nat} {w w' : World} (h : Below B w w') : Fr (Up B) w w' := ⟨h.os, h.tape, h.output, h.size, fun k _ hn => h.block k (by simp only [Up] at hn; omega)⟩

theorem lt_of_heap {w : World} {k : Nat} {o : Obj} (h : w.heap[k]? = some o) : k < w.heap.size := (Array.getElem?_eq_some_iff.1 h).1
theorem lt_of_cell {w : World} {p : Addr} {v : Value} (h : w.cell? p = some v) : p.block < w.heap.size := World.block_lt_of_cell? w p h

/-- The largest length that is spoken of: 2^47. -/
def big : Nat := 140737488355328

/-- The slice value '.slice ao n cap' reads as the cells xs. -/
structure Sl (w : World) (ao : Option Addr) (n cap : Nat) (xs : List Value) : Prop where
  le : n ≤ cap
  capLe : cap ≤ 9223372036854775807
  nocap : ao = none → cap = 0
  cell : ∀ a, ao = some a → ∀ j u, xs[j]? = some u → w.cell? (a.add j) = some u

/-- No memory of the address lies in S. -/
def Out (S : Nat → Prop) (ao : Option Addr) : Prop := ∀ a, ao = some a → ¬ S a.block

theorem Out.no (ao : Option Addr) : Out No ao := fun _ _ h => h
theorem Addr.add_block (a : Addr) (n : Nat) : (a.add n).block = a.block := by unfold Addr.add; split <;> rfl
theorem Addr.add_spot (a : Addr) (n : Nat) (h : a.spot = none) : (a.add n).spot = none := by unfold Addr.add; split <;> simp [h]
theorem Addr.add_add (a : Addr) (n m : Nat) : (a.add n).add m = a.add (n + m) := by
  unfold Addr.add; split <;> split <;> split <;> simp_all <;> omega

theorem Sl.fr {S : Nat → Prop} {w w' : World} {ao : Option Addr} {n cap : Nat} {xs : List Value} (h : Sl w ao n cap xs) (hf : Fr S w w') (ho : Out S ao) : Sl w' ao n cap xs :=
  ⟨h.le, h.capLe, h.nocap, fun a ha j u hu => hf.cell (h.cell a ha j u hu) (by rw [Addr.add_block]; exact ho a ha)⟩
theorem Sl.no {w w' : World} {ao : Option Addr} {n cap : Nat} {xs : List Value} (h : Sl w ao n cap xs) (hf : Fr No w w') : Sl w' ao n cap xs := h.fr hf (Out.no _)
/-- Memory below B does not turn when only blocks from B on are written. -/
theorem Sl.up {B : Nat} {w w' : World} {ao : Option Addr} {n cap : Nat} {xs : List Value} (h : Sl w ao n cap xs) (hf : Fr (Up B) w w') (ho : ∀ a, ao = some a → a.block < B) : Sl w' ao n cap xs :=
  h.fr hf (fun a ha hs => by have := ho a ha; simp only [Up] at hs; omega)
theorem Sl.lt {w : World} {ao : Option Addr} {n cap : Nat} {xs : List Value} (h : Sl w ao n cap xs) (hx : xs ≠ []) : ∀ a, ao = some a → a.block < w.heap.size := by
  intro a ha
  cases xs with
  | nil => exact absurd rfl hx
  | cons x xs => have := lt_of_cell (h.cell a ha 0 x rfl); rwa [Addr.add_block] at this
theorem Sl.nil (w : World) : Sl w none 0 0 [] := ⟨Nat.le_refl _, by omega, fun _ => rfl, fun _ h => by cases h⟩
theorem Sl.empty (w : World) {ao : Option Addr} {n cap : Nat} {xs : List Value} (h : Sl w ao n cap xs) : ∀ w', Sl w' ao n cap [] := fun _ => ⟨h.le, h.capLe, h.nocap, fun _ _ j u hu => by simp at hu⟩

/-- The slice 's[l:h]' (cut at cap m): its address, and what it reads. 'size': cells an element. -/
theorem Sl.cut {w : World} {ao : Option Addr} {n cap size : Nat} {xs : List Value} (h : Sl w ao n cap xs) (l r m : Nat) (h1 : l ≤ r) (h2 : r ≤ m) (h3 : m ≤ cap) {a' : Option Addr} (ha : a' = if m = l then ao else ao.map (·.add (l * size))) : Sl w a' (r - l) (m - l) ((xs.drop (l * size)).take ((r - l) * size)) := by
  refine ⟨by omega, by have := h.capLe; omega, ?_, ?_⟩
  · intro e
    rw [ha] at e
    split at e
    · omega
    · cases ao with
      | none => have := h.nocap rfl; omega
      | some b => simp at e
  · intro a e j u hu
    rw [ha] at e
    split at e
    · have h0 : r - l = 0 := by omega
      rw [h0] at hu; simp at hu
    · cases ao with
      | none => simp at e
      | some b =>
        simp at e
        subst e
        rw [Addr.add_add]
        rw [List.getElem?_take] at hu
        split at hu
        · rw [List.getElem?_drop] at hu
          exact h.cell b rfl _ u hu
        · cases hu

/-- The slice value '.slice ao n cap' owns its row: it begins at a block's head, the block is all its own (nothing of it frozen), and reads xs. -/
structure Own (w : World) (e size : Nat) (ao : Option Addr) (n cap : Nat) (xs : List Value) : Prop where
  len : xs.length = n * size
  le : n ≤ cap
  capLe : cap ≤ 9223372036854775807
  nocap : ao = none → cap = 0
  row : ∀ a, ao = some a → a = ⟨a.block, 0, none⟩ ∧ ∃ cur, w.heap[a.block]? = some (.cells cur e (0, 0)) ∧ cur.size = cap * size ∧ cur.toList.take (n * size) = xs

theorem Own.nil (w : World) (e size : Nat) : Own w e size none 0 0 [] := ⟨by simp, Nat.le_refl _, by omega, fun _ => rfl, fun _ h => by cases h⟩
theorem Own.fr {S : Nat → Prop} {w w' : World} {e size : Nat} {ao : Option Addr} {n cap : Nat} {xs : List Value} (h : Own w e size ao n cap xs) (hf : Fr S w w') (ho : Out S ao) : Own w' e size ao n cap xs :=
  ⟨h.len, h.le, h.capLe, h.nocap, fun a ha => by
    obtain ⟨h1, cur, h2, h3⟩ := h.row a ha
    exact ⟨h1, cur, hf.heap h2 (ho a ha), h3⟩⟩
theorem Own.no {w w' : World} {e size : Nat} {ao : Option Addr} {n cap : Nat} {xs : List Value} (h : Own w e size ao n cap xs) (hf : Fr No w w') : Own w' e size ao n cap xs := h.fr hf (Out.no _)
theorem Own.lt {w : World} {e size : Nat} {ao : Option Addr} {n cap : Nat} {xs : List Value} (h : Own w e size ao n cap xs) : ∀ a, ao = some a → a.block < w.heap.size := fun a ha => by
  obtain ⟨_, _, h2, _⟩ := h.row a ha
  exact lt_of_heap h2
theorem Own.sl {w : World} {e size : Nat} {ao : Option Addr} {n cap : Nat} {xs : List Value} (h : Own w e size ao n cap xs) : Sl w ao n cap xs := by
  refine ⟨h.le, h.capLe, h.nocap, fun a ha j u hu => ?_⟩
  obtain ⟨h1, cur, h2, _, h3⟩ := h.row a ha
  rw [h1]
  have hadd : ∀ b : Nat, (⟨b, 0, none⟩ : Addr).add j = ⟨b, j, none⟩ := by intro b; rw [Addr.add_lit, Nat.zero_add]
  rw [hadd, cell_of_row w a.block j cur e (0, 0) h2]
  rw [← h3, List.getElem?_take] at hu
  split at hu
  · simpa using hu
  · cases hu
theorem Own.owns {w : World} {e size : Nat} {ao : Option Addr} {n cap : Nat} {xs : List Value} (h : Own w e size ao n cap xs) : w.ownsRow 0 e size (.slice ao n cap) n xs := by
  refine ⟨h.len, ?_⟩
  cases ao with
  | none => left; have := h.nocap rfl; have := h.le; obtain rfl : cap = 0 := by omega
            obtain rfl : n = 0 := by omega
            exact ⟨rfl, rfl⟩
  | some a =>
    right
    obtain ⟨h1, cur, h2, h3, h4⟩ := h.row a rfl
    refine ⟨a.block, cap, cur, by rw [← h1], Nat.zero_le _, h2, h.le, by have := h.capLe; unfold maxLen; omega, h3, h4⟩
theorem Own.of_owns {w : World} {base e size : Nat} {v : Value} {n : Nat} {xs : List Value} (h : w.ownsRow base e size v n xs) : ∃ ao cap, v = .slice ao n cap ∧ Own w e size ao n cap xs ∧ (∀ a, ao = some a → base ≤ a.block) := by
  obtain ⟨h1, h2⟩ := h
  rcases h2 with ⟨rfl, rfl⟩ | ⟨g, cap, cur, rfl, hb, hg, hn, hm, hs, ht⟩
  · refine ⟨none, 0, rfl, ?_, fun _ h => by cases h⟩
    have : xs = [] := List.eq_nil_of_length_eq_zero (by simpa using h1)
    subst this
    exact Own.nil _ _ _
  · exact ⟨_, cap, rfl, ⟨h1, hn, by unfold maxLen at hm; omega, fun h => (by cases h), fun a ha => by cases ha; exact ⟨rfl, cur, hg, hs, ht⟩⟩, fun a ha => by cases ha; exact hb⟩
theorem Own.made {w : World} {e size : Nat} (cs : Array Value) (n : Nat) (hs : cs.size = n * size) (hn : n ≤ 9223372036854775807) :
    Own (w.alloc (.cells cs e)) e size (some ⟨w.heap.size, 0, none⟩) n n cs.toList :=
  ⟨by simpa using hs, Nat.le_refl _, hn, fun h => (by cases h), fun a ha => by
    cases ha; exact ⟨rfl, cs, heap_alloc_new w _, hs, List.take_of_length_le (by rw [Array.length_toList, hs]; exact Nat.le_refl _)⟩⟩

/-- The block of an address, as a set. -/
def At (ao : Option Addr) : Nat → Prop := fun k => ∃ a, ao = some a ∧ a.block = k

section
variable {P : Program}
/-- The built-in append, to a slice that owns its row, of whatever is read. -/
theorem run_append_U (w : World) (t ty e : TypeId) (i : TypeInfo) (z : Value) (size bytes : Nat) (ht : P.underlying t = some (.slice e)) (hi : P.info? e = some i) (hz : i.zero = some z)
    (hsize : i.size = size) (hby : i.bytes = bytes) (hzs : z.cells.size = size) (hsz : 0 < size)
    (ao : Option Addr) (n cap : Nat) (xs : List Value) (hown : Own w e size ao n cap xs)
    (bo : Option Addr) (m c : Nat) (news : List Value) (hs : Sl w bo m c news) (hl : news.length = m * size) (h1 : ∀ u ∈ news, u.oneCell' = true)
    (h63 : n + m ≤ 9223372036854775807) (hbytes : (n + m) * bytes ≤ 140737488355328) :
    ∃ ao' cap' w', (Builtin.append_ #[t, t] ty #[.slice ao n cap, .slice bo m c]).run P w = .ok (.slice ao' (n + m) cap') w' ∧ Own w' e size ao' (n + m) cap' (xs ++ news) ∧ Fr (At ao) w w' ∧
      (ao' = ao ∨ ∀ a, ao' = some a → w.heap.size ≤ a.block) ∧ (ao = none → 0 < m → ao' ≠ none) ∧ (ao ≠ none → ao' ≠ none) := by
  have h63' : n + m ≤ maxLen := by unfold maxLen; omega
  cases bo with
  | none =>
    have hc0 := hs.nocap rfl
    have hle := hs.le
    obtain rfl : c = 0 := hc0
    obtain rfl : m = 0 := by omega
    have hnews : news = [] := List.eq_nil_of_length_eq_zero (by simpa using hl)
    subst hnews
    refine ⟨ao, cap, w, run_append_owned_none w 0 t ty e i size ht hi _ n xs hown.owns, by simpa using hown, Fr.refl _ _, .inl rfl, fun _ h => absurd h (by omega), fun h => h⟩
  | some b =>
    cases ao with
    | none =>
      have hc0 := hown.nocap rfl
      have hle := hown.le
      obtain rfl : cap = 0 := hc0
      obtain rfl : n = 0 := by omega
      obtain ⟨v', w', r1, r2, r3, r4⟩ := run_append_own (P := P) w w.heap.size t ty e i z size bytes ht hi hz hsize hby hzs hsz (.slice none 0 0) 0 xs
        (by have h := hown.len; have hx : xs = [] := List.eq_nil_of_length_eq_zero (by simpa using h); subst hx; exact World.ownsRow_nil _ _ _ _)
        b m c news hl (hs.cell b rfl) h1 h63' hbytes (Nat.le_refl _)
      obtain ⟨ao', cap', rfl, ho, hb⟩ := Own.of_owns r2
      refine ⟨ao', cap', w', r1, ho, Fr.of_grown r3 (fun k hk => by simp [Value.ownBlock] at hk), .inr hb, ?_, fun h => absurd rfl h⟩
      intro _ hm e
      subst e
      have hc := ho.nocap rfl
      have := ho.le
      omega
    | some a =>
      obtain ⟨ha, cur, hg, hcs, htk⟩ := hown.row a rfl
      by_cases hroom : n + m ≤ cap
      · have ho := hown.owns
        rw [ha] at ho
        obtain ⟨w', r1, r2, r3⟩ := run_append_fits (P := P) w 0 t ty e i size ht hi hsize a.block n cap xs ho b m c news hl (hs.cell b rfl) h1 hroom
        obtain ⟨ao', cap', he, ho', _⟩ := Own.of_owns r2
        simp only [Value.slice.injEq] at he
        obtain ⟨rfl, -, rfl⟩ := he
        rw [← ha] at r1 ho'
        exact ⟨some a, cap, w', r1, ho', Fr.of_grown r3 (fun k hk => by cases hk; exact ⟨a, rfl, rfl⟩), .inl rfl, fun h => (by cases h), fun h => h⟩
      · obtain ⟨v', w', r1, r2, r3⟩ := run_append_arg_grows (P := P) w t ty e i z size bytes ht hi hz hsize hby hzs hsz a n cap xs hown.len (hown.sl.cell a rfl) b m c news hl (hs.cell b rfl) (by omega) h63' hbytes
        obtain ⟨ao', cap', rfl, ho', hb⟩ := Own.of_owns r2
        refine ⟨ao', cap', w', r1, ho', Fr.of_grown r3 (fun k hk => by cases hk), .inr hb, fun h => (by cases h), ?_⟩
        intro _ e
        subst e
        have hc := ho'.nocap rfl
        have := ho'.le
        omega

/-- The same, as a step of the walk. -/
theorem wpList_append_U (w : World) {ops : Array Oper} {rest : List Oper} {o : Oper} {a : Act} {Q : Exit → Act → World → Prop} (hgd : o.guard = none) (s x : Operand) (t : TypeId)
    (hop : o.op = .call { callee := .builtin .append, args := #[s, x], argTypes := #[t, t] }) (e : TypeId) (i : TypeInfo) (z : Value) (size bytes : Nat) (ht : P.underlying t = some (.slice e)) (hi : P.info? e = some i) (hz : i.zero = some z)
    (hsize : i.size = size) (hby : i.bytes = bytes) (hzs : z.cells.size = size) (hsz : 0 < size)
    (ao : Option Addr) (n cap : Nat) (hev : a.eval s = .slice ao n cap) (bo : Option Addr) (m c : Nat) (hex : a.eval x = .slice bo m c) (xs : List Value) (hown : Own w e size ao n cap xs)
    (news : List Value) (hs : Sl w bo m c news) (hl : news.length = m * size) (h1 : ∀ u ∈ news, u.oneCell' = true) (h63 : n + m ≤ 9223372036854775807) (hbytes : (n + m) * bytes ≤ 140737488355328)
    (hK : ∀ ao' cap' w', Own w' e size ao' (n + m) cap' (xs ++ news) → Fr (At ao) w w' → (ao' = ao ∨ ∀ a, ao' = some a → w.heap.size ≤ a.block) → (ao = none → 0 < m → ao' ≠ none) → (ao ≠ none → ao' ≠ none) →
      wpList P ops Q rest (a.put o.dst (.slice ao' (n + m) cap')) w') :
    wpList P ops Q (o :: rest) a w := by
  refine wpList_plain hgd fun K hK' => ?_
  obtain ⟨ao', cap', w', hrun, r1, r2, r3, r4, r5⟩ := run_append_U (P := P) w t o.type e i z size bytes ht hi hz hsize hby hzs hsz ao n cap xs hown bo m c news hs hl h1 h63 hbytes
  unfold Oper.wp
  simp [execOp, hop, resolve, invoke, builtin, hev, hex, hrun, Result.andThen]
  exact hK' _ _ (hK ao' cap' w' r1 r2 r3 r4 r5)
end

/-- A byte as a cell. -/
def byteV (x : UInt8) : Value := .int .u8 x.toNat
def bytesV (bs : List UInt8) : List Value := bs.map byteV
theorem bytesV_length (bs : List UInt8) : (bytesV bs).length = bs.length := by simp [bytesV]
theorem bytesV_one (bs : List UInt8) : ∀ u ∈ bytesV bs, u.oneCell' = true := by
  intro u hu
  obtain ⟨_, _, rfl⟩ := List.mem_map.1 hu
  rfl
theorem bytesV_append (a b : List UInt8) : bytesV (a ++ b) = bytesV a ++ bytesV b := by simp [bytesV]

/-- A slice of bytes that is read; one that is owned (the type 'byte' has the number E). -/
def Bs (w : World) (ao : Option Addr) (n cap : Nat) (bs : List UInt8) : Prop := n = bs.length ∧ Sl w ao n cap (bytesV bs)
def OB (w : World) (e : Nat) (ao : Option Addr) (n cap : Nat) (bs : List UInt8) : Prop := n = bs.length ∧ Own w e 1 ao n cap (bytesV bs)
theorem OB.bs {w : World} {e : Nat} {ao : Option Addr} {n cap : Nat} {bs : List UInt8} (h : OB w e ao n cap bs) : Bs w ao n cap bs := ⟨h.1, h.2.sl⟩
theorem Bs.fr {S : Nat → Prop} {w w' : World} {ao : Option Addr} {n cap : Nat} {bs : List UInt8} (h : Bs w ao n cap bs) (hf : Fr S w w') (ho : Out S ao) : Bs w' ao n cap bs := ⟨h.1, h.2.fr hf ho⟩
theorem Bs.no {w w' : World} {ao : Option Addr} {n cap : Nat} {bs : List UInt8} (h : Bs w ao n cap bs) (hf : Fr No w w') : Bs w' ao n cap bs := ⟨h.1, h.2.no hf⟩
theorem OB.fr {S : Nat → Prop} {w w' : World} {e : Nat} {ao : Option Addr} {n cap : Nat} {bs : List UInt8} (h : OB w e ao n cap bs) (hf : Fr S w w') (ho : Out S ao) : OB w' e ao n cap bs := ⟨h.1, h.2.fr hf ho⟩
theorem OB.no {w w' : World} {e : Nat} {ao : Option Addr} {n cap : Nat} {bs : List UInt8} (h : OB w e ao n cap bs) (hf : Fr No w w') : OB w' e ao n cap bs := ⟨h.1, h.2.no hf⟩
theorem OB.nil (w : World) (e : Nat) : OB w e none 0 0 [] := ⟨rfl, Own.nil _ _ _⟩
theorem Bs.cut {w : World} {ao : Option Addr} {n cap : Nat} {bs : List UInt8} (h : Bs w ao n cap bs) (l r m : Nat) (h1 : l ≤ r) (h2 : r ≤ m) (h3 : m ≤ cap) (hr : r ≤ n) {a' : Option Addr} (ha : a' = if m = l then ao else ao.map (·.add l)) :
    Bs w a' (r - l) (m - l) ((bs.drop l).take (r - l)) := by
  refine ⟨by have := h.1; simp; omega, ?_⟩
  have := h.2.cut (size := 1) l r m h1 h2 h3 (a' := a') (by simpa using ha)
  simpa [bytesV, List.map_take, List.map_drop] using this
theorem Bs.byte {w : World} {ao : Option Addr} {n cap : Nat} {bs : List UInt8} (h : Bs w ao n cap bs) (j : Nat) (hj : j < bs.length) : ∃ a, ao = some a ∧ w.cell? (a.add j) = some (.int .u8 (bs[j].toNat)) := by
  cases ao with
  | none => have h1 := h.1; have h2 := h.2.le; have := h.2.nocap rfl; omega
  | some a => exact ⟨a, rfl, h.2.cell a rfl j _ (by simp [bytesV, byteV, List.getElem?_eq_getElem hj])⟩
theorem Bs.at {w : World} {a : Addr} {n cap : Nat} {bs : List UInt8} (h : Bs w (some a) n cap bs) {j : Nat} {c : UInt8} (hj : bs[j]? = some c) : w.cell? (a.add j) = some (.int .u8 c.toNat) :=
  h.2.cell a rfl j _ (by simp [bytesV, byteV, hj])
theorem Bs.some {w : World} {ao : Option Addr} {n cap : Nat} {bs : List UInt8} (h : Bs w ao n cap bs) (hn : 0 < bs.length) : ∃ a, ao = some a := by
  obtain ⟨a, ha, _⟩ := h.byte 0 hn; exact ⟨a, ha⟩
theorem at_lt {bs : List UInt8} {k : Nat} (h : k < bs.length) : ∃ c, bs[k]? = some c := ⟨bs[k], List.getElem?_eq_getElem h⟩
theorem take_succ_at {bs : List UInt8} {k : Nat} {c : UInt8} (h : bs[k]? = some c) : bs.take (k + 1) = bs.take k ++ [c] := by
  rw [List.take_add_one, h]; rfl
/-- Bytes that were there stay, where only new blocks are written. -/
theorem Bs.keep {w w' : World} {ao : Option Addr} {n cap : Nat} {bs : List UInt8} (h : Bs w ao n cap bs) (hf : Fr (Up w.heap.size) w w') : Bs w' ao n cap bs := h.no (hf.up (Nat.le_refl _))
theorem OB.keep {w w' : World} {e : Nat} {ao : Option Addr} {n cap : Nat} {bs : List UInt8} (h : OB w e ao n cap bs) (hf : Fr (Up w.heap.size) w w') : OB w' e ao n cap bs := h.no (hf.up (Nat.le_refl _))
theorem OB.made {w : World} {e : Nat} (bs : List UInt8) (hn : bs.length ≤ 9223372036854775807) {cs : Array Value} (hc : cs.toList = bytesV bs) {n : Nat} (hb : n = bs.length) {k : Nat} (hk : k = w.heap.size) :
    OB (w.alloc (.cells cs e)) e (some ⟨k, 0, none⟩) n n bs := by
  subst hb
  subst hk
  refine ⟨rfl, ?_⟩
  have h := Own.made (w := w) (e := e) (size := 1) cs bs.length (by rw [← Array.length_toList, hc, bytesV_length]; omega) hn
  rwa [hc] at h

/-- What '[]byte' reads as, as a string. -/
theorem foldl_push (bs : List UInt8) : ∀ s : ByteArray, (bs.map fun (x : UInt8) => (x.toNat : Int)).foldl (fun r n => r.push (UInt8.ofNat n.toNat)) s = ⟨s.data ++ bs.toArray⟩ := by
  induction bs with
  | nil => intro s; simp
  | cons b bs ih =>
    intro s
    rw [List.map_cons, List.foldl_cons, ih]
    simp [ByteArray.push]
theorem run_bytes_string {P : Program} (w : World) (src dst e : TypeId) {ao : Option Addr} {n cap : Nat} {bs : List UInt8} (h : Bs w ao n cap bs)
    (hs : P.underlying src = some (.slice e)) (he : P.underlying e = some (.int .u8)) (hd : P.underlying dst = some .string) :
    (convert src dst (.slice ao n cap)).run P w = .ok (.string ⟨bs.toArray⟩) w := by
  rw [run_convert_bytes_string w src dst e ao n cap hs he hd]
  obtain ⟨rfl, h⟩ := h
  cases ao with
  | none =>
    have h1 := h.nocap rfl
    have h2 := h.le
    have : bs = [] := List.eq_nil_of_length_eq_zero (by omega)
    subst this
    simp [Conv.bytesToString, Sem.run_pure]
    rfl
  | some a =>
    rw [run_bytesToString w a bs.length cap (bs.map fun x => (x.toNat : Int))]
    · rw [foldl_push]; simp
    · have := run_firstCells_some (P := P) w 1 bs.length a bs.length cap (bytesV bs) (by simp [bytesV_length]) (h.cell a rfl)
      simpa [Builtin.firstCells, bytesV, byteV, Function.comp_def, show byteV = fun x : UInt8 => Value.int .u8 (x.toNat : Int) from rfl] using this
end Go.Proofs.Ythoppkklooomgaa