/- fdb: drop. -/
import Derived.Test.YticebdoiahadoaaFd4o
import Derived.Shelf.SlSortCmp.NoneTotal
import Derived.StillTailTactics
namespace Go.Proofs.Yticebdoiahadoaa
open Go.RowKit
set_option linter.unusedVariables false
set_option linter.unusedSimpArgs false

/-- What is still there when 'left' are still to be looked at. -/
def keepL (Pd : En → Bool) (L : FL) (left : List (Mac × Nat)) : FL := L.filter fun p => !(Pd p.2.2) || decide (p.1 ∈ left.map (·.1))
theorem keepL_all (Pd : En → Bool) (L : FL) : keepL Pd L (L.map pr) = L := by
  unfold keepL
  rw [List.filter_eq_self]
  intro p hp
  have : p.1 ∈ (L.map pr).map (·.1) := by rw [List.map_map]; exact List.mem_map.2 ⟨p, hp, rfl⟩
  simp only [this, decide_true, Bool.or_true]
theorem keepL_none (Pd : En → Bool) (L : FL) : keepL Pd L [] = L.filter fun p => !(Pd p.2.2) := by
  unfold keepL
  congr 1
  funext p
  simp
theorem mem_keys_mdel {left : List (Mac × Nat)} {k x : Mac} : x ∈ (mdel left k).map (·.1) ↔ x ∈ left.map (·.1) ∧ x ≠ k := by
  constructor
  · intro h
    obtain ⟨p, hp, rfl⟩ := List.mem_map.1 h
    obtain ⟨h1, h2⟩ := mem_mdel.1 hp
    exact ⟨List.mem_map.2 ⟨p, h1, rfl⟩, h2⟩
  · rintro ⟨h, h2⟩
    obtain ⟨p, hp, rfl⟩ := List.mem_map.1 h
    exact List.mem_map.2 ⟨p, mem_mdel.2 ⟨hp, h2⟩, rfl⟩
theorem mdel_pr (L : FL) (k : Mac) : mdel (L.map pr) k = (mdel L k).map pr := by
  unfold mdel
  rw [List.filter_map]
  rfl
theorem keepL_stay {Pd : En → Bool} {L : FL} {left : List (Mac × Nat)} {k : Mac} (h : ∀ p ∈ L, p.1 = k → Pd p.2.2 = false) : keepL Pd L (mdel left k) = keepL Pd L left := by
  unfold keepL
  apply List.filter_congr
  intro p hp
  by_cases hk : p.1 = k
  · rw [h p hp hk]; simp
  · congr 1
    rw [decide_eq_decide, mem_keys_mdel]
    simp [hk]
theorem keepL_go {Pd : En → Bool} {L : FL} {left : List (Mac × Nat)} {k : Mac} (h : ∀ p ∈ L, p.1 = k → Pd p.2.2 = true) : keepL Pd L (mdel left k) = mdel (keepL Pd L left) k := by
  unfold keepL mdel
  rw [List.filter_filter]
  apply List.filter_congr
  intro p hp
  by_cases hk : p.1 = k
  · rw [h p hp hk]
    have : p.1 ∉ (List.filter (fun p => decide (p.1 ≠ k)) left).map (·.1) := fun hh => (mem_keys_mdel.1 hh).2 hk
    simp only [this, hk, ne_eq, not_true, decide_false, Bool.not_true, Bool.false_or, Bool.false_and]
    simp
  · have e : decide (p.1 ∈ (List.filter (fun p => decide (p.1 ≠ k)) left).map (·.1)) = decide (p.1 ∈ left.map (·.1)) := by
      rw [decide_eq_decide]
      exact (mem_keys_mdel (left := left) (k := k) (x := p.1)).trans (by simp [hk])
    rw [e]
    simp [hk]
/-- A predicate on entries, as a Go function value that only looks. -/
def Looks (w : World) (mb fk : Nat) (caps : Array Value) (Pd : En → Bool) : Prop :=
  ∀ W, Fr (Is mb) w W → ∀ b e, EnAt W b e → e.ok → Calls Try.prog fk (#[evP b] ++ caps) W fun r W' => r = .returned (.bool (Pd e)) ∧ Fr No W W'
def LetP (w : World) (tb mb : Nat) (room life : Int) (L : FL) (Pd : En → Bool) (e : Ending) (w' : World) : Prop :=
  e = .returned (.int .i64 ((L.length : Int) - ((L.filter fun p => !(Pd p.2.2)).length : Int))) ∧ Fd w' tb mb room life (L.filter fun p => !(Pd p.2.2)) ∧ Fr (Is mb) w w'

set_option maxRecDepth 100000 in
set_option maxHeartbeats 2000000 in
theorem fbLetF_any {w W : World} {mb bx : Nat} {fk : Nat} {caps : Array Value} {ty : TypeId} (hbx : W.heap[bx]? = some (.cells #[.func (.func fk) #[] caps] ty (0, 0))) {Pd : En → Bool} (hl : Looks w mb fk caps Pd) (hf : Fr (Is mb) w W)
    (eg : ∀ args w, (callFunc fk args).run Try.prog w = .ok (.enter fk args) w) (k : Mac) {b : Nat} {e : En} (he : EnAt W b e) (hok : e.ok) {r : Bool} (hr : Pd e = r) :
    Calls Try.prog 72 #[evM k, evP b, .pointer (some ⟨bx, 0, none⟩)] W fun e W' => e = .returned (.bool r) ∧ Fr No W W' := by
  have kb := cell_box hbx
  have hlb := lt_of_heap hbx
  have F1 := Lib.hid ((Fr.refl No W).alloc (.cells #[byteV k.a, byteV k.b, byteV k.c, byteV k.d, byteV k.e, byteV k.f] 25))
  have HL := Lib.hid (hl _ (hf.then_no F1.out) b e (F1.out.heap he (fun h => h)) hok)
  have KB := Lib.hid (F1.out.cell kb (fun h => h))
  rw [hr] at HL
  clear hl hbx hf he hok
  unfold evM evP
  go_enter Try.func72, Try.ntmps72
  go_wp2
  refine HL.out.mono ?_
  rintro e w3 ⟨rfl, f3⟩
  have F3 := Lib.hid f3
  clear f3
  go_wp2
  go_ret
  exact ⟨rfl, F1.out.then_no F3.out⟩

set_option maxRecDepth 100000 in
set_option maxHeartbeats 2000000 in
theorem fbMapDel_any {w : World} {tb mb bx : Nat} {room life : Int} {L : FL} (h : Fd w tb mb room life L) {fk : Nat} {caps : Array Value} {ty : TypeId} (hbx : w.heap[bx]? = some (.cells #[.func (.func fk) #[] caps] ty (0, 0))) {Pd : En → Bool} (hl : Looks w mb fk caps Pd)
    (eg : ∀ args w, (callFunc fk args).run Try.prog w = .ok (.enter fk args) w) :
    Calls Try.prog 71 #[.map (some mb), .func (.func 72) #[] #[.pointer (some ⟨bx, 0, none⟩)]] w fun e w' => (∃ v, e = .returned v) ∧ Mp okM evM evP w' mb ((L.filter fun p => !(Pd p.2.2)).map pr) ∧ Fr (Is mb) w w' := by
  have H := Lib.hid h
  have HL := Lib.hid hl
  have HB := Lib.hid hbx
  have hlm := h.mp.lt
  have hlb := lt_of_heap hbx
  have hne : bx ≠ mb := by
    intro e
    obtain ⟨es, c, hm, -⟩ := h.mp.ex
    rw [e, hm] at hbx; cases hbx
  clear h hl hbx
  go_enter Try.func71, Try.ntmps71
  go_wp2_with (first
    | (at_range; refine wpList_range_mp rfl _ 87 rfl Try.underlying87 rfl H.out.mp ?_; intro w0 hrg0 hg0 hs0))
  go_frame
  have F0 := Lib.hid (Fr.of_gb (S := Is mb) hg0 (fun k e => by cases e))
  have R0 := Lib.hid hrg0
  clear hrg0 hg0
  have hnd : (L.map (·.1)).Nodup := by have := H.out.mp.nd; rw [List.map_map] at this; exact this
  have HND := Lib.hid hnd
  clear hnd
  go_loopw [] (fun wr => ∃ (left : List (Mac × Nat)), Rg okM evM evP wr mb w.heap.size ((keepL Pd L left).map pr) left ∧ (∀ q ∈ left, q ∈ L.map pr) ∧ w.heap.size < wr.heap.size ∧ Fr (Is mb) w wr) (fun wr => wr.rangeLeft mb w.heap.size)
  case atStart => exact ⟨L.map pr, by rw [keepL_all]; exact R0.out, fun q h => h, by omega, F0.out⟩
  case round =>
    clear R0 F0 hs0
    obtain ⟨left, hrg, hsub, hsz, hf⟩ := hrel
    have HR := Lib.hid hrg
    have HSB := Lib.hid hsub
    have HF := Lib.hid hf
    clear hrg hsub hf
    go_wp2_with (first
      | (at_next; refine wpList_next_mp rfl _ rfl keM rfl HR.out ?_ ?_))
    · intro hl0
      subst hl0
      have hr := HR.out.mp
      rw [keepL_none] at hr
      have HMP := Lib.hid hr
      clear hr
      go_wp2_with fail
      go_end0
      exact ⟨⟨_, rfl⟩, HMP.out, HF.out⟩
    · intro k b w2 hp hrg2 hg2 hs2 hen
      obtain ⟨p, hpL, hpe⟩ := List.mem_map.1 (HSB.out _ hp)
      have hb : p.2.1 = b := (Prod.mk.inj hpe).2
      have hk : p.1 = k := (Prod.mk.inj hpe).1
      have hone : ∀ p' ∈ L, p'.1 = k → p' = p := by
        intro p' hp' hk'
        have h1 := mget_of_mem HND.out (k := p.1) (v := p.2) hpL
        have h2 := mget_of_mem HND.out (k := p.1) (v := p'.2) (by rw [hk, ← hk']; exact hp')
        exact Prod.ext (hk'.trans hk.symm) (Option.some.inj (h2.symm.trans h1))
      have f2 : Fr (Is w.heap.size) wr w2 := Fr.of_gb hg2 (fun r e => by cases e; rfl)
      have F2 := Lib.hid (HF.out.then f2 (fun i hi (h : i = w.heap.size) => by omega))
      have hnem : p.2.1 ≠ mb := by
        intro e
        obtain ⟨es, c, hm, -⟩ := H.out.mp.ex
        have := H.out.ent p hpL
        unfold EnAt at this
        rw [e, hm] at this; cases this
      have f3 := F2.out.then_no ((Fr.refl No w2).alloc (.cells #[.int .u8 (k.a.toNat : Int), .int .u8 (k.b.toNat : Int), .int .u8 (k.c.toNat : Int), .int .u8 (k.d.toNat : Int), .int .u8 (k.e.toNat : Int), .int .u8 (k.f.toNat : Int)] 25))
      have F3 := Lib.hid f3
      have HEN := Lib.hid (show EnAt (w2.alloc (.cells #[.int .u8 (k.a.toNat : Int), .int .u8 (k.b.toNat : Int), .int .u8 (k.c.toNat : Int), .int .u8 (k.d.toNat : Int), .int .u8 (k.e.toNat : Int), .int .u8 (k.f.toNat : Int)] 25)) b p.2.2 by rw [← hb]; exact f3.heap (H.out.ent p hpL) (fun h => hnem h))
      have HBX := Lib.hid (f3.heap HB.out (fun h => hne h))
      have R3 := Lib.hid (hrg2.fr ((Fr.refl No w2).alloc (.cells #[.int .u8 (k.a.toNat : Int), .int .u8 (k.b.toNat : Int), .int .u8 (k.c.toNat : Int), .int .u8 (k.d.toNat : Int), .int .u8 (k.e.toNat : Int), .int .u8 (k.f.toNat : Int)] 25)) (fun h => h) (fun h => h))
      have X3 := Lib.hid (heap_alloc_new w2 (.cells #[.int .u8 (k.a.toNat : Int), .int .u8 (k.b.toNat : Int), .int .u8 (k.c.toNat : Int), .int .u8 (k.d.toNat : Int), .int .u8 (k.e.toNat : Int), .int .u8 (k.f.toNat : Int)] 25))
      have HOK := Lib.hid (H.out.ok p hpL)
      have hlt : (mdel left k).length < left.length := by
        have := (perm_mdel HR.out.ndl hp).length_eq
        simp at this; omega
      have HLT := Lib.hid hlt
      have HRL := Lib.hid HR.out.left_eq
      have hsz3 : w.heap.size < w2.heap.size := by omega
      have hsub2 : ∀ q ∈ mdel left k, q ∈ L.map pr := fun q hq => HSB.out q (mem_mdel.1 hq).1
      have HSB2 := Lib.hid hsub2
      obtain ⟨r, hr⟩ : ∃ r, Pd p.2.2 = r := ⟨_, rfl⟩
      have HPR := Lib.hid hr
      have HONE := Lib.hid hone
      clear hp hrg2 hg2 hs2 hpL hpe hb hk hone f2 f3 hnem hlt hsub2 hr HR HSB HF F2 hsz
      simp only [evM, evP, byteV] at hen ⊢
      go_wp2_with fail
      generalize w2.heap.size = bk at X3 hsz3 ⊢
      generalize World.alloc w2 _ = w3 at F3 HEN HBX R3 X3 ⊢
      refine (fbLetF_any HBX.out HL.out F3.out eg k HEN.out HOK.out HPR.out).mono ?_
      rintro e w4 ⟨rfl, f4⟩
      have R4 := Lib.hid (R3.out.fr f4 (fun h => h) (fun h => h))
      have F4 := Lib.hid (F3.out.then_no f4)
      have X4 := Lib.hid (f4.heap X3.out (fun h => h))
      have hsz4 : w.heap.size < w4.heap.size := by have h1 := f4.size; have h2 := lt_of_heap X3.out; omega
      clear f4 R3 F3 X3 HBX HEN hen
      obtain ⟨c0, c1, c2, c3, c4, c5⟩ := cells6 X4.out
      cases r
      · have hst := Lib.hid (keepL_stay (left := left) (Pd := Pd) (L := L) (k := k) (fun p' hp' hk' => by rw [HONE.out p' hp' hk']; exact HPR.out))
        go_wp2_with fail
        go_roundw
        case rel => exact ⟨mdel left k, by rw [hst.out]; exact R4.out, HSB2.out, hsz4, F4.out⟩
        case measure => rw [R4.out.left_eq, HRL.out]; exact HLT.out
      · have hst := Lib.hid (keepL_go (left := left) (Pd := Pd) (L := L) (k := k) (fun p' hp' hk' => by rw [HONE.out p' hp' hk']; exact HPR.out))
        go_wp2_with (refine wpList_drop_mp rfl (.tmp 17) (.tmp 18) 87 rfl keM Try.underlying87 rfl R4.out k trivial (by rfl) ?_; intro w5 hr5 f5 hs5)
        have hr6 : Rg okM evM evP w5 mb w.heap.size ((keepL Pd L (mdel left k)).map pr) (mdel left k) := by
          have e : mdel (mdel left k) k = mdel left k := by unfold mdel; rw [List.filter_filter]; congr 1; funext p; simp
          rw [e, mdel_pr] at hr5
          rw [hst.out]; exact hr5
        have R6 := Lib.hid hr6
        have F6 := Lib.hid (F4.out.trans f5)
        have hsz6 : w.heap.size < w5.heap.size := by omega
        clear hr6 hr5 f5 hs5
        go_wp2_with fail
        simp only [Act.put]
        go_roundw
        case rel => exact ⟨mdel left k, R6.out, HSB2.out, hsz6, F6.out⟩
        case measure => rw [R6.out.left_eq, HRL.out]; exact HLT.out
end Go.Proofs.Yticebdoiahadoaa
