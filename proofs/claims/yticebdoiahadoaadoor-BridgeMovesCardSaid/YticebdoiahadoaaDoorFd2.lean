/- fdb: the base, entries; Group, old, New. -/
import Derived.Test.YticebdoiahadoaaDoorFd1
namespace Go.Proofs.YticebdoiahadoaaDoor
open Go.RowKit
set_option linter.unusedVariables false
set_option linter.unusedSimpArgs false
theorem Fr.drewN {S : Nat → Prop} {a w : World} (h : Fr S a w) (n : Nat) : Fr S a (w.drewN n) := ⟨h.os, h.tape, h.output, h.size, h.block⟩
theorem cell_box {w : World} {b : Nat} {v : Value} {e : TypeId} {f : Nat × Nat} (h : w.heap[b]? = some (.cells #[v] e f)) : w.cell? ⟨b, 0, none⟩ = some v := by
  rw [cell_of_row w b 0 #[v] e f h]; rfl
theorem cells6 {w : World} {b : Nat} {c0 c1 c2 c3 c4 c5 : Value} {e : TypeId} {f : Nat × Nat} (h : w.heap[b]? = some (.cells #[c0, c1, c2, c3, c4, c5] e f)) :
    w.cell? ⟨b, 0, none⟩ = some c0 ∧ w.cell? ⟨b, 1, none⟩ = some c1 ∧ w.cell? ⟨b, 2, none⟩ = some c2 ∧ w.cell? ⟨b, 3, none⟩ = some c3 ∧ w.cell? ⟨b, 4, none⟩ = some c4 ∧ w.cell? ⟨b, 5, none⟩ = some c5 :=
  ⟨by rw [cell_of_row w b 0 _ e f h]; rfl, by rw [cell_of_row w b 1 _ e f h]; rfl, by rw [cell_of_row w b 2 _ e f h]; rfl, by rw [cell_of_row w b 3 _ e f h]; rfl, by rw [cell_of_row w b 4 _ e f h]; rfl, by rw [cell_of_row w b 5 _ e f h]; rfl⟩
/-- An entry. -/
structure En where
  mac : Mac
  tun : Bool
  n : Int
  at_ : Int
  st : Bool
deriving DecidableEq, Inhabited
def En.ok (e : En) : Prop := (-9223372036854775808 ≤ e.n ∧ e.n ≤ 9223372036854775807) ∧ (0 ≤ e.at_ ∧ e.at_ < 18446744073709551616)
def encE (e : En) : List Value := [byteV e.mac.a, byteV e.mac.b, byteV e.mac.c, byteV e.mac.d, byteV e.mac.e, byteV e.mac.f, .bool e.tun, .int .i64 e.n, .int .u64 e.at_, .bool e.st]
def evE (e : En) : Value := .agg #[byteV e.mac.a, byteV e.mac.b, byteV e.mac.c, byteV e.mac.d, byteV e.mac.e, byteV e.mac.f, .bool e.tun, .int .i64 e.n, .int .u64 e.at_, .bool e.st]
/-- A place by value. -/
def evPl (tun : Bool) (n : Int) : Value := .agg #[.bool tun, .int .i64 n]
def evP (b : Nat) : Value := .pointer (some ⟨b, 0, none⟩)
theorem zeroP (w : World) : (zeroValue 60).run Tryd.prog w = .ok (.pointer none) w := by kernel_rfl

/-- Block b is that entry. -/
def EnAt (w : World) (b : Nat) (e : En) : Prop := w.heap[b]? = some (.cells #[byteV e.mac.a, byteV e.mac.b, byteV e.mac.c, byteV e.mac.d, byteV e.mac.e, byteV e.mac.f, .bool e.tun, .int .i64 e.n, .int .u64 e.at_, .bool e.st] 66 (0, 0))
theorem EnAt.cells {w : World} {b : Nat} {e : En} (h : EnAt w b e) :
    w.cell? ⟨b, 0, none⟩ = some (byteV e.mac.a) ∧ w.cell? ⟨b, 1, none⟩ = some (byteV e.mac.b) ∧ w.cell? ⟨b, 2, none⟩ = some (byteV e.mac.c) ∧ w.cell? ⟨b, 3, none⟩ = some (byteV e.mac.d) ∧ w.cell? ⟨b, 4, none⟩ = some (byteV e.mac.e) ∧
    w.cell? ⟨b, 5, none⟩ = some (byteV e.mac.f) ∧ w.cell? ⟨b, 6, none⟩ = some (.bool e.tun) ∧ w.cell? ⟨b, 7, none⟩ = some (.int .i64 e.n) ∧ w.cell? ⟨b, 8, none⟩ = some (.int .u64 e.at_) ∧ w.cell? ⟨b, 9, none⟩ = some (.bool e.st) := by
  unfold EnAt at h
  refine ⟨?_, ?_, ?_, ?_, ?_, ?_, ?_, ?_, ?_, ?_⟩ <;> (rw [cell_of_row w b _ _ _ _ h]; rfl)
abbrev FL := List (Mac × Nat × En)
def pr (p : Mac × Nat × En) : Mac × Nat := (p.1, p.2.1)
/-- A base: block tb; its map: block mb; its entries. -/
structure Fd (w : World) (tb mb : Nat) (room life : Int) (L : FL) : Prop where
  box : w.heap[tb]? = some (.cells #[.int .i64 room, .int .u64 life, .map (some mb)] 63 (0, 0))
  mp : Mp okM evM evP w mb (L.map pr)
  ent : ∀ p ∈ L, EnAt w p.2.1 p.2.2
  key : ∀ p ∈ L, p.2.2.mac = p.1
  ok : ∀ p ∈ L, p.2.2.ok
  dis : (L.map (·.2.1)).Nodup
  len : L.length ≤ 64
  lif : 0 ≤ life ∧ life < 18446744073709551616
  rom : 1 ≤ room ∧ room ≤ 64
  lr : (L.length : Int) ≤ room
/-- What a base's operations may write. -/
def FS (mb : Nat) (L : FL) : Nat → Prop := fun k => k = mb ∨ ∃ p ∈ L, k = p.2.1
theorem Fd.fr {S : Nat → Prop} {w w' : World} {tb mb : Nat} {room life : Int} {L : FL} (h : Fd w tb mb room life L) (hf : Fr S w w') (h1 : ¬ S tb) (h2 : ¬ S mb) (h3 : ∀ p ∈ L, ¬ S p.2.1) : Fd w' tb mb room life L :=
  ⟨hf.heap h.box h1, h.mp.fr hf h2, fun p hp => hf.heap (h.ent p hp) (h3 p hp), h.key, h.ok, h.dis, h.len, h.lif, h.rom, h.lr⟩
theorem Fd.no {w w' : World} {tb mb : Nat} {room life : Int} {L : FL} (h : Fd w tb mb room life L) (hf : Fr No w w') : Fd w' tb mb room life L := h.fr hf (fun h => h) (fun h => h) (fun _ _ h => h)
theorem Fd.lt {w : World} {tb mb : Nat} {room life : Int} {L : FL} (h : Fd w tb mb room life L) : ∀ p ∈ L, p.2.1 < w.heap.size := fun p hp => lt_of_heap (h.ent p hp)
theorem Fd.cells {w : World} {tb mb : Nat} {room life : Int} {L : FL} (h : Fd w tb mb room life L) : w.cell? ⟨tb, 0, none⟩ = some (.int .i64 room) ∧ w.cell? ⟨tb, 1, none⟩ = some (.int .u64 life) ∧ w.cell? ⟨tb, 2, none⟩ = some (.map (some mb)) :=
  ⟨by rw [cell_of_row w tb 0 _ _ _ h.box]; rfl, by rw [cell_of_row w tb 1 _ _ _ h.box]; rfl, by rw [cell_of_row w tb 2 _ _ _ h.box]; rfl⟩

/-- A group's. -/
def grpM (m : Mac) : Bool := decide (m.a.toNat % 2 = 1)
theorem grp_bits (x : UInt8) : (bits .and .u8 (x.toNat : Int) 1 == 1) = decide (x.toNat % 2 = 1) := by
  have h : ∀ n : Fin 256, (bits .and .u8 ((n : Nat) : Int) 1 == 1) = decide ((n : Nat) % 2 = 1) := by decide +kernel
  exact h ⟨x.toNat, x.toNat_lt⟩
set_option maxRecDepth 100000 in
theorem fbGroup_any (m : Mac) (w : World) : Calls Tryd.prog 26 #[evM m] w fun e w' => e = .returned (.bool (grpM m)) ∧ Fr No w w' := by
  obtain ⟨a, b, c, d, e, f⟩ := m
  have hg := Lib.hid (grp_bits a)
  unfold evM byteV
  simp only
  go_enter Tryd.func26, Tryd.ntmps26
  go_wp2
  go_ret
  refine ⟨?_, (Fr.refl No w).alloc _⟩
  unfold grpM
  simp only
  rw [← hg.out]
  rfl
/-- Is an entry old? -/
def oldE (life : Int) (e : En) (now : Int) : Bool := !e.st && decide (life ≤ now - min now e.at_)
set_option maxRecDepth 100000 in
theorem fbOld_any {w : World} {tb b : Nat} {room life now : Int} {mb : Nat} {e : En} (h0 : w.heap[tb]? = some (.cells #[.int .i64 room, .int .u64 life, .map (some mb)] 63 (0, 0))) (he : EnAt w b e) (hok : e.ok) (hn0 : 0 ≤ now) (hn1 : now < 18446744073709551616)
    {r : Bool} (hr : oldE life e now = r) :
    Calls Tryd.prog 19 #[.pointer (some ⟨tb, 0, none⟩), .pointer (some ⟨b, 0, none⟩), .int .u64 now] w fun e w' => e = .returned (.bool r) ∧ ∃ m, w' = w.drewN m := by
  obtain ⟨-, -, -, -, -, -, -, -, c8, c9⟩ := he.cells
  have k1 : w.cell? ⟨tb, 1, none⟩ = some (.int .u64 life) := by rw [cell_of_row w tb 1 _ _ _ h0]; rfl
  obtain ⟨m, tun, n, at_, st⟩ := e
  obtain ⟨-, ha0, ha1⟩ := hok
  unfold oldE at hr
  simp only at c8 c9 hr ha0 ha1
  have HR := Lib.hid hr
  obtain ⟨mn, hmn⟩ : ∃ mn, min now at_ = mn := ⟨_, rfl⟩
  have hmb : 0 ≤ mn ∧ mn ≤ now := by omega
  obtain ⟨hmb0, hmb1⟩ := hmb
  rw [hmn] at HR
  clear h0 he hr
  go_enter Tryd.func19, Tryd.ntmps19
  cases st
  · go_wp2
    go_quiet (fail)
    go_wp2
    all_goals go_ret
    all_goals
      refine ⟨?_, _, rfl⟩
      rw [← HR.out, ← hmn]
    · rw [show min now at_ = at_ by omega]; rfl
    · rw [show min now at_ = now by omega, Int.sub_self]; rfl
  · go_wp2
    go_quiet (fail)
    go_wp2
    go_ret
    exact ⟨by rw [← HR.out]; rfl, _, rfl⟩
theorem fbOld_q {w : World} {tb b : Nat} {room life now : Int} {mb : Nat} {e : En} (h0 : w.heap[tb]? = some (.cells #[.int .i64 room, .int .u64 life, .map (some mb)] 63 (0, 0))) (he : EnAt w b e) (hok : e.ok) (hn0 : 0 ≤ now) (hn1 : now < 18446744073709551616)
    {r : Bool} (hr : oldE life e now = r) (n : Nat) :
    Calls Tryd.prog 19 #[.pointer (some ⟨tb, 0, none⟩), .pointer (some ⟨b, 0, none⟩), .int .u64 now] (w.drewN n) fun e w' => e = .returned (.bool r) ∧ ∃ m, w' = w.drewN m :=
  (fbOld_any (w := w.drewN n) h0 he hok hn0 hn1 hr).mono fun e w' ⟨he, m, hm⟩ => ⟨he, n + m, by rw [hm]; simp [World.drewN, Nat.add_assoc]⟩
end Go.Proofs.YticebdoiahadoaaDoor