/- octets: the writer. -/
import Derived.Test.YthoppkklooomgaaOct
namespace Go.Proofs.Ythoppkklooomgaa
open Go.RowKit
set_option linter.unusedVariables false
/-- The writer at block wb has written the bytes bs; all its memory lies in S, to which all belongs that is not made yet. -/
structure WrAt (S : Nat → Prop) (w : World) (wb : Nat) (ao : Option Addr) (n cap : Nat) (bs : List UInt8) : Prop where
  heap : w.heap[wb]? = some (.cells #[.slice ao n cap] 94 (0, 0))
  ob : OB w 5 ao n cap bs
  out : Out (Is wb) ao
  up : ∀ a, ao = some a → S a.block
  upw : S wb
  fresh : ∀ k, w.heap.size ≤ k → S k
def Wr (S : Nat → Prop) (w : World) (wb : Nat) (bs : List UInt8) : Prop := ∃ ao n cap, WrAt S w wb ao n cap bs

theorem Wr.no {S : Nat → Prop} {w w' : World} {wb : Nat} {bs : List UInt8} (h : Wr S w wb bs) (hf : Fr No w w') : Wr S w' wb bs := by
  obtain ⟨ao, n, cap, h⟩ := h
  exact ⟨ao, n, cap, hf.heap h.heap (fun h => h), h.ob.no hf, h.out, h.up, h.upw, fun k hk => h.fresh k (Nat.le_trans hf.size hk)⟩

/-- A byte of a number. -/
def u8 (x : Int) : UInt8 := UInt8.ofNat (x % 256).toNat
theorem u8_toNat (x : Int) : ((u8 x).toNat : Int) = x % 256 := by
  have h1 : 0 ≤ x % 256 := by omega
  have h2 : x % 256 < 256 := by omega
  simp only [u8, UInt8.toNat_ofNat']
  omega
theorem u8_eq {x y : Int} (h : y = x % 256) : Value.int .u8 y = byteV (u8 x) := by rw [byteV, u8_toNat, h]

/-- An append of new bytes to the writer's row, and the store of the row. -/
theorem WrAt.put {S : Nat → Prop} {w w2 : World} {wb : Nat} {bs ys : List UInt8} {ao ao' : Option Addr} {n cap n' cap' : Nat}
    (h : WrAt S w wb ao n cap bs) (ho : OB w2 5 ao' n' cap' (bs ++ ys)) (hf : Fr (At ao) w w2) (hd : ao' = ao ∨ ∀ a, ao' = some a → w.heap.size ≤ a.block) :
    WrAt S (w2.setCell ⟨wb, 0, none⟩ (.slice ao' n' cap')) wb ao' n' cap' (bs ++ ys) ∧ Fr S w (w2.setCell ⟨wb, 0, none⟩ (.slice ao' n' cap')) ∧
      w2.cell? ⟨wb, 0, none⟩ = some (.slice ao n cap) ∧ w2.frozen? ⟨wb, 0, none⟩ = false := by
  have hwb := lt_of_heap h.heap
  have h1' : w2.heap[wb]? = some (.cells #[.slice ao n cap] 94 (0, 0)) := hf.heap h.heap (by rintro ⟨a, ha, e⟩; exact h.out a ha e)
  have hout : Out (Is wb) ao' := by
    rcases hd with rfl | hd
    · exact h.out
    · intro a ha hs
      have := hd a ha
      simp only [Is] at hs
      omega
  refine ⟨⟨one_set h1', ho.fr (Fr.set1 _ _ _) hout, hout, ?_, h.upw, fun k hk => h.fresh k (Nat.le_trans hf.size (by simpa [World.setCell] using hk))⟩, (hf.mono ?_).then (Fr.set1 _ _ _) ?_, cell_of_one h1', free_of_one h1'⟩
  · intro a ha
    rcases hd with rfl | hd
    · exact h.up a ha
    · exact h.fresh _ (hd a ha)
  · rintro k hk ⟨a, ha, rfl⟩; exact h.up a ha
  · rintro k hk rfl; exact h.upw
/-- The same, what is appended in a new block. -/
theorem WrAt.put_new {S : Nat → Prop} {w w2 : World} {o : Obj} {wb : Nat} {bs ys : List UInt8} {ao ao' : Option Addr} {n cap n' cap' : Nat}
    (h : WrAt S w wb ao n cap bs) (ho : OB w2 5 ao' n' cap' (bs ++ ys)) (hf : Fr (At ao) (w.alloc o) w2) (hd : ao' = ao ∨ ∀ a, ao' = some a → (w.alloc o).heap.size ≤ a.block) :
    WrAt S (w2.setCell ⟨wb, 0, none⟩ (.slice ao' n' cap')) wb ao' n' cap' (bs ++ ys) ∧ Fr S w (w2.setCell ⟨wb, 0, none⟩ (.slice ao' n' cap')) ∧
      w2.cell? ⟨wb, 0, none⟩ = some (.slice ao n cap) ∧ w2.frozen? ⟨wb, 0, none⟩ = false :=
  h.put ho (((Fr.refl _ _).alloc o).then hf (fun _ _ h => h)) (hd.imp id (fun h a ha => by have := h a ha; simp at this; omega))

def PutOk (S : Nat → Prop) (w : World) (wb : Nat) (bs : List UInt8) (e : Ending) (w' : World) : Prop :=
  e = .returned (.pointer (some ⟨wb, 0, none⟩)) ∧ Wr S w' wb bs ∧ Fr S w w'

theorem wBytes_any {S : Nat → Prop} {w : World} {wb : Nat} {bs ys : List UInt8} {bo : Option Addr} {m c : Nat} (h : Wr S w wb bs) (hb : Bs w bo m c ys) (hn : bs.length + m ≤ big) :
    Calls Try.prog 33 #[.pointer (some ⟨wb, 0, none⟩), .slice bo m c] w (PutOk S w wb (bs ++ ys)) := by
  obtain ⟨ao, n, cap, h⟩ := h
  have hc := cell_of_one h.heap
  have hlt := lt_of_heap h.heap
  have hf0 := free_of_one h.heap
  have HN : Hid (n + m ≤ big) := by rw [h.ob.1]; exact hn
  have H := Lib.hid h
  have HB := Lib.hid hb
  clear h hb hn
  go_enter Try.func33, Try.ntmps33
  go_wp2_with (at_builtin; refine wpl_append (.tmp 9) (.tmp 10) rfl rfl rfl rfl H.out.ob HB.out HN.out ?_; intro ao' cap' w2 ho hf hd hz; obtain ⟨p1, p2, p3, p4⟩ := H.out.put ho hf hd; clear ho hf hd hz; have P1 := Lib.hid p1; have P2 := Lib.hid p2; clear p1 p2)
  go_ret
  exact ⟨rfl, ⟨_, _, _, P1.out⟩, P2.out⟩

theorem wput1 {S : Nat → Prop} {w : World} {wb : Nat} {bs : List UInt8} (h : Wr S w wb bs) (x : Int) (_hx0 : 0 ≤ x) (_hx1 : x < 4294967296) (hn : bs.length + 1 ≤ big) :
    Calls Try.prog 51 #[.pointer (some ⟨wb, 0, none⟩), .int .u32 x, .int .i64 1] w (PutOk S w wb (bs ++ [u8 x])) := by
  obtain ⟨ao, n, cap, h⟩ := h
  have hc := cell_of_one h.heap
  have hlt := lt_of_heap h.heap
  have hf0 := free_of_one h.heap
  have HN : Hid (n + 1 ≤ big) := by rw [h.ob.1]; exact hn
  have H := Lib.hid h
  clear h hn
  go_enter Try.func51, Try.ntmps51
  go_wp2_with (at_builtin; refine wpl_append (.tmp 45) (.tmp 48) rfl rfl rfl rfl (H.out.ob.no ((Fr.refl _ _).alloc _)) (OB.made [u8 x] (by simp) (by simp [bytesV, byteV, u8_toNat]) rfl (by simp)).bs HN.out ?_; intro ao' cap' w2 ho hf hd hz; obtain ⟨p1, p2, p3, p4⟩ := H.out.put_new ho hf hd; clear ho hf hd hz; have P1 := Lib.hid p1; have P2 := Lib.hid p2; clear p1 p2)
  go_ret
  exact ⟨rfl, ⟨_, _, _, P1.out⟩, P2.out⟩

theorem wput2 {S : Nat → Prop} {w : World} {wb : Nat} {bs : List UInt8} (h : Wr S w wb bs) (x : Int) (hx0 : 0 ≤ x) (hx1 : x < 4294967296) (hn : bs.length + 2 ≤ big) :
    Calls Try.prog 51 #[.pointer (some ⟨wb, 0, none⟩), .int .u32 x, .int .i64 2] w (PutOk S w wb (bs ++ [u8 (x / 256), u8 x])) := by
  obtain ⟨ao, n, cap, h⟩ := h
  have hc := cell_of_one h.heap
  have hlt := lt_of_heap h.heap
  have hf0 := free_of_one h.heap
  have HN : Hid (n + 2 ≤ big) := by rw [h.ob.1]; exact hn
  have H := Lib.hid h
  clear h hn
  go_enter Try.func51, Try.ntmps51
  go_wp2_with (first
    | (at_builtin; refine wpl_append (.tmp 33) (.tmp 37) rfl rfl rfl rfl (H.out.ob.no ((Fr.refl _ _).alloc _)) (OB.made [u8 (x / 256)] (by simp) (by simp [bytesV, byteV, u8_toNat]) rfl (by simp)).bs (by have := HN.out; omega) ?_; intro ao1 cap1 w1 ho hf hd hz; obtain ⟨p1, p2, p3, p4⟩ := H.out.put_new ho hf hd; clear ho hf hd hz hc hf0; have P1 := Lib.hid p1; have P2 := Lib.hid p2; clear p1 p2)
    | (at_builtin; refine wpl_append (.tmp 45) (.tmp 48) rfl rfl rfl rfl (P1.out.ob.no ((Fr.refl _ _).alloc _)) (OB.made [u8 x] (by simp) (by simp [bytesV, byteV, u8_toNat]) rfl (by simp)).bs (by have := HN.out; omega) ?_; intro ao2 cap2 w2 ho hf hd hz; obtain ⟨q1, q2, q3, q4⟩ := P1.out.put_new ho hf hd; clear ho hf hd hz p3 p4; have Q1 := Lib.hid q1; have Q2 := Lib.hid q2; clear q1 q2))
  go_ret
  exact ⟨rfl, ⟨_, _, _, by simpa using Q1.out⟩, P2.out.trans Q2.out⟩

theorem wput4 {S : Nat → Prop} {w : World} {wb : Nat} {bs : List UInt8} (h : Wr S w wb bs) (x : Int) (hx0 : 0 ≤ x) (hx1 : x < 4294967296) (hn : bs.length + 4 ≤ big) :
    Calls Try.prog 51 #[.pointer (some ⟨wb, 0, none⟩), .int .u32 x, .int .i64 4] w (PutOk S w wb (bs ++ [u8 (x / 16777216), u8 (x / 65536), u8 (x / 256), u8 x])) := by
  obtain ⟨ao, n, cap, h⟩ := h
  have hc := cell_of_one h.heap
  have hlt := lt_of_heap h.heap
  have hf0 := free_of_one h.heap
  have HN : Hid (n + 4 ≤ big) := by rw [h.ob.1]; exact hn
  have H := Lib.hid h
  clear h hn
  go_enter Try.func51, Try.ntmps51
  go_wp2_with (first
    | (at_builtin; refine wpl_append (.tmp 18) (.tmp 25) rfl rfl rfl rfl (H.out.ob.no ((Fr.refl _ _).alloc _)) (OB.made [u8 (x / 16777216), u8 (x / 65536)] (by simp) (by simp [bytesV, byteV, u8_toNat]; omega) rfl (by simp)).bs (by have := HN.out; omega) ?_; intro ao0 cap0 w0 ho hf hd hz; obtain ⟨r1, r2, r3, r4⟩ := H.out.put_new ho hf hd; clear ho hf hd hz hc hf0; have R1 := Lib.hid r1; have R2 := Lib.hid r2; clear r1 r2)
    | (at_builtin; refine wpl_append (.tmp 33) (.tmp 37) rfl rfl rfl rfl (R1.out.ob.no ((Fr.refl _ _).alloc _)) (OB.made [u8 (x / 256)] (by simp) (by simp [bytesV, byteV, u8_toNat]) rfl (by simp)).bs (by have := HN.out; omega) ?_; intro ao1 cap1 w1 ho hf hd hz; obtain ⟨p1, p2, p3, p4⟩ := R1.out.put_new ho hf hd; clear ho hf hd hz r3 r4; have P1 := Lib.hid p1; have P2 := Lib.hid p2; clear p1 p2)
    | (at_builtin; refine wpl_append (.tmp 45) (.tmp 48) rfl rfl rfl rfl (P1.out.ob.no ((Fr.refl _ _).alloc _)) (OB.made [u8 x] (by simp) (by simp [bytesV, byteV, u8_toNat]) rfl (by simp)).bs (by have := HN.out; omega) ?_; intro ao2 cap2 w2 ho hf hd hz; obtain ⟨q1, q2, q3, q4⟩ := P1.out.put_new ho hf hd; clear ho hf hd hz p3 p4; have Q1 := Lib.hid q1; have Q2 := Lib.hid q2; clear q1 q2))
  go_ret
  exact ⟨rfl, ⟨_, _, _, by simpa using Q1.out⟩, (R2.out.trans P2.out).trans Q2.out⟩

/-- A number's four bytes; its two. -/
def b4 (x : Int) : List UInt8 := [u8 (x / 16777216), u8 (x / 65536), u8 (x / 256), u8 x]
def b2 (x : Int) : List UInt8 := [u8 (x / 256), u8 x]

theorem wU32_any {S : Nat → Prop} {w : World} {wb : Nat} {bs : List UInt8} (h : Wr S w wb bs) (x : Int) (hx0 : 0 ≤ x) (hx1 : x < 4294967296) (hn : bs.length + 4 ≤ big) :
    Calls Try.prog 36 #[.pointer (some ⟨wb, 0, none⟩), .int .u32 x] w (PutOk S w wb (bs ++ b4 x)) := by
  go_enter Try.func36, Try.ntmps36
  go_wp2_with (go_at_call 51; refine (wput4 h x hx0 hx1 hn).mono ?_; rintro e w1 ⟨rfl, hr, hf⟩)
  go_ret
  exact ⟨rfl, hr, hf⟩

theorem Fr.drewN {S : Nat → Prop} {a w : World} (h : Fr S a w) (n : Nat) : Fr S a (w.drewN n) := ⟨h.os, h.tape, h.output, h.size, h.block⟩

/-- (*Writer).Done -/
def DoneOk (w : World) (bs : List UInt8) (e : Ending) (w' : World) : Prop :=
  ∃ g cap, e = .returned (.slice (some ⟨g, 0, none⟩) bs.length cap) ∧ OB w' 5 (some ⟨g, 0, none⟩) bs.length cap bs ∧ Fr No w w' ∧ w.heap.size ≤ g
theorem wDone_any {S : Nat → Prop} {w : World} {wb : Nat} {bs : List UInt8} (h : Wr S w wb bs) (hn : bs.length ≤ big) : Calls Try.prog 34 #[.pointer (some ⟨wb, 0, none⟩)] w (DoneOk w bs) := by
  obtain ⟨ao, n, cap, h⟩ := h
  have hc := cell_of_one h.heap
  have hlt := lt_of_heap h.heap
  obtain rfl := h.ob.1
  have HN : Hid (bs.length ≤ big) := hn
  have H := Lib.hid h
  clear h hn
  go_enter Try.func34, Try.ntmps34
  go_wp2_with (at_builtin; refine wpl_append (.tmp 3) (.tmp 7) rfl rfl rfl rfl (OB.made [] (by decide) (by rfl) rfl (by simp)) (H.out.ob.bs.no ((Fr.refl _ _).alloc _)) (by have := HN.out; omega) ?_; intro ao' cap' w1 ho hf hd hz)
  go_ret
  obtain ⟨a, rfl⟩ : ∃ a, ao' = some a := Option.ne_none_iff_exists'.1 (hz (by simp))
  have ha := (ho.2.row a rfl).1
  refine ⟨a.block, cap', by rw [← ha]; simp, by rw [← ha]; simpa using ho, ((Fr.refl _ _).alloc _).then hf ?_, ?_⟩
  · rintro i hi ⟨b, hb, rfl⟩; cases hb; simp at hi
  · rcases hd with hd | hd
    · cases hd; simp
    · have := hd a rfl; simp at this; omega

end Go.Proofs.Ythoppkklooomgaa