/- fdb: drop. fdb: drop, Forget, Drop, Tick. fdb: equality of MACs and places; Forget, Drop. fdb: New, Find, Forget, Drop. fdb: Find. fdb: slices.IndexFunc, DeleteFunc at pointers. -/
import Derived.Test.YticebdoiahadoaaDoorFd4o
import Derived.Shelf.SlSortCmp.NoneTotal
import Derived.StillTailTactics
import Derived.Laws.StructEq
import Derived.Stop.BytesEq
namespace Go.Proofs.YticebdoiahadoaaDoor
open Go.RowKit
set_option linter.unusedVariables false
set_option linter.unusedSimpArgs false
/-- What is still there when 'left' are still to be looked at. -/
def keepL (Pd : En → Bool) (L : FL) (left : List (Mac × Nat)) : FL := L.filter fun p => !(Pd p.2.2) || decide (p.1 ∈ left.map (·.1))
theorem keepL_all (Pd : En → Bool) (L : FL) : keepL Pd L (L.map pr) = L := by
  unfold keepL
  rw [List.filter_eq_self]
  intro p hp
  have : p.1 ∈ (L.map pr).map (·.1) := by rw [List.map_map]; exact List.mem_map.2 ⟨p, hp, rfl⟩
  simp only [this, decide_true, Bool.or_true]
theorem keepL_none (Pd : En → Bool) (L : FL) : keepL Pd L [] = L.filter fun p => !(Pd p.2.2) := by
  unfold keepL
  congr 1
  funext p
  simp
theorem mem_keys_mdel {left : List (Mac × Nat)} {k x : Mac} : x ∈ (mdel left k).map (·.1) ↔ x ∈ left.map (·.1) ∧ x ≠ k := by
  constructor
  · intro h
    obtain ⟨p, hp, rfl⟩ := List.mem_map.1 h
    obtain ⟨h1, h2⟩ := mem_mdel.1 hp
    exact ⟨List.mem_map.2 ⟨p, h1, rfl⟩, h2⟩
  · rintro ⟨h, h2⟩
    obtain ⟨p, hp, rfl⟩ := List.mem_map.1 h
    exact List.mem_map.2 ⟨p, mem_mdel.2 ⟨hp, h2⟩, rfl⟩
theorem mdel_pr (L : FL) (k : Mac) : mdel (L.map pr) k = (mdel L k).map pr := by
  unfold mdel
  rw [List.filter_map]
  rfl
theorem keepL_stay {Pd : En → Bool} {L : FL} {left : List (Mac × Nat)} {k : Mac} (h : ∀ p ∈ L, p.1 = k → Pd p.2.2 = false) : keepL Pd L (mdel left k) = keepL Pd L left := by
  unfold keepL
  apply List.filter_congr
  intro p hp
  by_cases hk : p.1 = k
  · rw [h p hp hk]; simp
  · congr 1
    rw [decide_eq_decide, mem_keys_mdel]
    simp [hk]
theorem keepL_go {Pd : En → Bool} {L : FL} {left : List (Mac × Nat)} {k : Mac} (h : ∀ p ∈ L, p.1 = k → Pd p.2.2 = true) : keepL Pd L (mdel left k) = mdel (keepL Pd L left) k := by
  unfold keepL mdel
  rw [List.filter_filter]
  apply List.filter_congr
  intro p hp
  by_cases hk : p.1 = k
  · rw [h p hp hk]
    have : p.1 ∉ (List.filter (fun p => decide (p.1 ≠ k)) left).map (·.1) := fun hh => (mem_keys_mdel.1 hh).2 hk
    simp only [this, hk, ne_eq, not_true, decide_false, Bool.not_true, Bool.false_or, Bool.false_and]
    simp
  · have e : decide (p.1 ∈ (List.filter (fun p => decide (p.1 ≠ k)) left).map (·.1)) = decide (p.1 ∈ left.map (·.1)) := by
      rw [decide_eq_decide]
      exact (mem_keys_mdel (left := left) (k := k) (x := p.1)).trans (by simp [hk])
    rw [e]
    simp [hk]
/-- A predicate on entries, as a Go function value that only looks. -/
def Looks (w : World) (mb fk : Nat) (caps : Array Value) (Pd : En → Bool) : Prop :=
  ∀ W, Fr (Is mb) w W → ∀ b e, EnAt W b e → e.ok → Calls Tryd.prog fk (#[evP b] ++ caps) W fun r W' => r = .returned (.bool (Pd e)) ∧ Fr No W W'
def LetP (w : World) (tb mb : Nat) (room life : Int) (L : FL) (Pd : En → Bool) (e : Ending) (w' : World) : Prop :=
  e = .returned (.int .i64 ((L.length : Int) - ((L.filter fun p => !(Pd p.2.2)).length : Int))) ∧ Fd w' tb mb room life (L.filter fun p => !(Pd p.2.2)) ∧ Fr (Is mb) w w'

set_option maxRecDepth 100000 in
set_option maxHeartbeats 2000000 in
theorem fbLetF_any {w W : World} {mb bx : Nat} {fk : Nat} {caps : Array Value} {ty : TypeId} (hbx : W.heap[bx]? = some (.cells #[.func (.func fk) #[] caps] ty (0, 0))) {Pd : En → Bool} (hl : Looks w mb fk caps Pd) (hf : Fr (Is mb) w W)
    (eg : ∀ args w, (callFunc fk args).run Tryd.prog w = .ok (.enter fk args) w) (k : Mac) {b : Nat} {e : En} (he : EnAt W b e) (hok : e.ok) {r : Bool} (hr : Pd e = r) :
    Calls Tryd.prog 39 #[evM k, evP b, .pointer (some ⟨bx, 0, none⟩)] W fun e W' => e = .returned (.bool r) ∧ Fr No W W' := by
  have kb := cell_box hbx
  have hlb := lt_of_heap hbx
  have F1 := Lib.hid ((Fr.refl No W).alloc (.cells #[byteV k.a, byteV k.b, byteV k.c, byteV k.d, byteV k.e, byteV k.f] 24))
  have HL := Lib.hid (hl _ (hf.then_no F1.out) b e (F1.out.heap he (fun h => h)) hok)
  have KB := Lib.hid (F1.out.cell kb (fun h => h))
  rw [hr] at HL
  clear hl hbx hf he hok
  unfold evM evP
  go_enter Tryd.func39, Tryd.ntmps39
  go_wp2
  refine HL.out.mono ?_
  rintro e w3 ⟨rfl, f3⟩
  have F3 := Lib.hid f3
  clear f3
  go_wp2
  go_ret
  exact ⟨rfl, F1.out.then_no F3.out⟩

set_option maxRecDepth 100000 in
set_option maxHeartbeats 2000000 in
theorem fbMapDel_any {w : World} {tb mb bx : Nat} {room life : Int} {L : FL} (h : Fd w tb mb room life L) {fk : Nat} {caps : Array Value} {ty : TypeId} (hbx : w.heap[bx]? = some (.cells #[.func (.func fk) #[] caps] ty (0, 0))) {Pd : En → Bool} (hl : Looks w mb fk caps Pd)
    (eg : ∀ args w, (callFunc fk args).run Tryd.prog w = .ok (.enter fk args) w) :
    Calls Tryd.prog 38 #[.map (some mb), .func (.func 39) #[] #[.pointer (some ⟨bx, 0, none⟩)]] w fun e w' => (∃ v, e = .returned v) ∧ Mp okM evM evP w' mb ((L.filter fun p => !(Pd p.2.2)).map pr) ∧ Fr (Is mb) w w' := by
  have H := Lib.hid h
  have HL := Lib.hid hl
  have HB := Lib.hid hbx
  have hlm := h.mp.lt
  have hlb := lt_of_heap hbx
  have hne : bx ≠ mb := by
    intro e
    obtain ⟨es, c, hm, -⟩ := h.mp.ex
    rw [e, hm] at hbx; cases hbx
  clear h hl hbx
  go_enter Tryd.func38, Tryd.ntmps38
  go_wp2_with (first
    | (at_range; refine wpList_range_mp rfl _ 61 rfl Tryd.underlying61 rfl H.out.mp ?_; intro w0 hrg0 hg0 hs0))
  go_frame
  have F0 := Lib.hid (Fr.of_gb (S := Is mb) hg0 (fun k e => by cases e))
  have R0 := Lib.hid hrg0
  clear hrg0 hg0
  have hnd : (L.map (·.1)).Nodup := by have := H.out.mp.nd; rw [List.map_map] at this; exact this
  have HND := Lib.hid hnd
  clear hnd
  go_loopw [] (fun wr => ∃ (left : List (Mac × Nat)), Rg okM evM evP wr mb w.heap.size ((keepL Pd L left).map pr) left ∧ (∀ q ∈ left, q ∈ L.map pr) ∧ w.heap.size < wr.heap.size ∧ Fr (Is mb) w wr) (fun wr => wr.rangeLeft mb w.heap.size)
  case atStart => exact ⟨L.map pr, by rw [keepL_all]; exact R0.out, fun q h => h, by omega, F0.out⟩
  case round =>
    clear R0 F0 hs0
    obtain ⟨left, hrg, hsub, hsz, hf⟩ := hrel
    have HR := Lib.hid hrg
    have HSB := Lib.hid hsub
    have HF := Lib.hid hf
    clear hrg hsub hf
    go_wp2_with (first
      | (at_next; refine wpList_next_mp rfl _ rfl keM rfl HR.out ?_ ?_))
    · intro hl0
      subst hl0
      have hr := HR.out.mp
      rw [keepL_none] at hr
      have HMP := Lib.hid hr
      clear hr
      go_wp2_with fail
      go_end0
      exact ⟨⟨_, rfl⟩, HMP.out, HF.out⟩
    · intro k b w2 hp hrg2 hg2 hs2 hen
      obtain ⟨p, hpL, hpe⟩ := List.mem_map.1 (HSB.out _ hp)
      have hb : p.2.1 = b := (Prod.mk.inj hpe).2
      have hk : p.1 = k := (Prod.mk.inj hpe).1
      have hone : ∀ p' ∈ L, p'.1 = k → p' = p := by
        intro p' hp' hk'
        have h1 := mget_of_mem HND.out (k := p.1) (v := p.2) hpL
        have h2 := mget_of_mem HND.out (k := p.1) (v := p'.2) (by rw [hk, ← hk']; exact hp')
        exact Prod.ext (hk'.trans hk.symm) (Option.some.inj (h2.symm.trans h1))
      have f2 : Fr (Is w.heap.size) wr w2 := Fr.of_gb hg2 (fun r e => by cases e; rfl)
      have F2 := Lib.hid (HF.out.then f2 (fun i hi (h : i = w.heap.size) => by omega))
      have hnem : p.2.1 ≠ mb := by
        intro e
        obtain ⟨es, c, hm, -⟩ := H.out.mp.ex
        have := H.out.ent p hpL
        unfold EnAt at this
        rw [e, hm] at this; cases this
      have f3 := F2.out.then_no ((Fr.refl No w2).alloc (.cells #[.int .u8 (k.a.toNat : Int), .int .u8 (k.b.toNat : Int), .int .u8 (k.c.toNat : Int), .int .u8 (k.d.toNat : Int), .int .u8 (k.e.toNat : Int), .int .u8 (k.f.toNat : Int)] 24))
      have F3 := Lib.hid f3
      have HEN := Lib.hid (show EnAt (w2.alloc (.cells #[.int .u8 (k.a.toNat : Int), .int .u8 (k.b.toNat : Int), .int .u8 (k.c.toNat : Int), .int .u8 (k.d.toNat : Int), .int .u8 (k.e.toNat : Int), .int .u8 (k.f.toNat : Int)] 24)) b p.2.2 by rw [← hb]; exact f3.heap (H.out.ent p hpL) (fun h => hnem h))
      have HBX := Lib.hid (f3.heap HB.out (fun h => hne h))
      have R3 := Lib.hid (hrg2.fr ((Fr.refl No w2).alloc (.cells #[.int .u8 (k.a.toNat : Int), .int .u8 (k.b.toNat : Int), .int .u8 (k.c.toNat : Int), .int .u8 (k.d.toNat : Int), .int .u8 (k.e.toNat : Int), .int .u8 (k.f.toNat : Int)] 24)) (fun h => h) (fun h => h))
      have X3 := Lib.hid (heap_alloc_new w2 (.cells #[.int .u8 (k.a.toNat : Int), .int .u8 (k.b.toNat : Int), .int .u8 (k.c.toNat : Int), .int .u8 (k.d.toNat : Int), .int .u8 (k.e.toNat : Int), .int .u8 (k.f.toNat : Int)] 24))
      have HOK := Lib.hid (H.out.ok p hpL)
      have hlt : (mdel left k).length < left.length := by
        have := (perm_mdel HR.out.ndl hp).length_eq
        simp at this; omega
      have HLT := Lib.hid hlt
      have HRL := Lib.hid HR.out.left_eq
      have hsz3 : w.heap.size < w2.heap.size := by omega
      have hsub2 : ∀ q ∈ mdel left k, q ∈ L.map pr := fun q hq => HSB.out q (mem_mdel.1 hq).1
      have HSB2 := Lib.hid hsub2
      obtain ⟨r, hr⟩ : ∃ r, Pd p.2.2 = r := ⟨_, rfl⟩
      have HPR := Lib.hid hr
      have HONE := Lib.hid hone
      clear hp hrg2 hg2 hs2 hpL hpe hb hk hone f2 f3 hnem hlt hsub2 hr HR HSB HF F2 hsz
      simp only [evM, evP, byteV] at hen ⊢
      go_wp2_with fail
      generalize w2.heap.size = bk at X3 hsz3 ⊢
      generalize World.alloc w2 _ = w3 at F3 HEN HBX R3 X3 ⊢
      refine (fbLetF_any HBX.out HL.out F3.out eg k HEN.out HOK.out HPR.out).mono ?_
      rintro e w4 ⟨rfl, f4⟩
      have R4 := Lib.hid (R3.out.fr f4 (fun h => h) (fun h => h))
      have F4 := Lib.hid (F3.out.then_no f4)
      have X4 := Lib.hid (f4.heap X3.out (fun h => h))
      have hsz4 : w.heap.size < w4.heap.size := by have h1 := f4.size; have h2 := lt_of_heap X3.out; omega
      clear f4 R3 F3 X3 HBX HEN hen
      obtain ⟨c0, c1, c2, c3, c4, c5⟩ := cells6 X4.out
      cases r
      · have hst := Lib.hid (keepL_stay (left := left) (Pd := Pd) (L := L) (k := k) (fun p' hp' hk' => by rw [HONE.out p' hp' hk']; exact HPR.out))
        go_wp2_with fail
        go_roundw
        case rel => exact ⟨mdel left k, by rw [hst.out]; exact R4.out, HSB2.out, hsz4, F4.out⟩
        case measure => rw [R4.out.left_eq, HRL.out]; exact HLT.out
      · have hst := Lib.hid (keepL_go (left := left) (Pd := Pd) (L := L) (k := k) (fun p' hp' hk' => by rw [HONE.out p' hp' hk']; exact HPR.out))
        go_wp2_with (refine wpList_drop_mp rfl (.tmp 17) (.tmp 18) 61 rfl keM Tryd.underlying61 rfl R4.out k trivial (by rfl) ?_; intro w5 hr5 f5 hs5)
        have hr6 : Rg okM evM evP w5 mb w.heap.size ((keepL Pd L (mdel left k)).map pr) (mdel left k) := by
          have e : mdel (mdel left k) k = mdel left k := by unfold mdel; rw [List.filter_filter]; congr 1; funext p; simp
          rw [e, mdel_pr] at hr5
          rw [hst.out]; exact hr5
        have R6 := Lib.hid hr6
        have F6 := Lib.hid (F4.out.trans f5)
        have hsz6 : w.heap.size < w5.heap.size := by omega
        clear hr6 hr5 f5 hs5
        go_wp2_with fail
        simp only [Act.put]
        go_roundw
        case rel => exact ⟨mdel left k, R6.out, HSB2.out, hsz6, F6.out⟩
        case measure => rw [R6.out.left_eq, HRL.out]; exact HLT.out
end Go.Proofs.YticebdoiahadoaaDoor
namespace Go.Proofs.YticebdoiahadoaaDoor
open Go.RowKit
set_option linter.unusedVariables false
set_option linter.unusedSimpArgs false
theorem Fd.filter {w w' : World} {tb mb : Nat} {room life : Int} {L : FL} (h : Fd w tb mb room life L) (q : Mac × Nat × En → Bool) (hm : Mp okM evM evP w' mb ((L.filter q).map pr)) (hf : Fr (Is mb) w w') : Fd w' tb mb room life (L.filter q) := by
  have hne : ∀ p ∈ L, p.2.1 ≠ mb := by
    intro p hp e
    obtain ⟨es, c, hm, -⟩ := h.mp.ex
    have := h.ent p hp
    unfold EnAt at this
    rw [e, hm] at this; cases this
  have hnt : tb ≠ mb := by
    intro e
    obtain ⟨es, c, hm, -⟩ := h.mp.ex
    have := h.box
    rw [e, hm] at this; cases this
  exact ⟨hf.heap h.box (fun e => hnt e), hm, fun p hp => hf.heap (h.ent p (List.mem_filter.1 hp).1) (fun e => hne p (List.mem_filter.1 hp).1 e), fun p hp => h.key p (List.mem_filter.1 hp).1, fun p hp => h.ok p (List.mem_filter.1 hp).1,
    (List.filter_sublist.map _).nodup h.dis, Nat.le_trans (List.length_filter_le _ _) h.len, h.lif, h.rom, by have h1 := List.length_filter_le q L; have h2 := h.lr; omega⟩

set_option maxRecDepth 100000 in
set_option maxHeartbeats 2000000 in
theorem fbLet_any {w : World} {tb mb : Nat} {room life : Int} {L : FL} (h : Fd w tb mb room life L) {fk : Nat} {caps : Array Value} {Pd : En → Bool} (hl : Looks w mb fk caps Pd)
    (eg : ∀ args w, (callFunc fk args).run Tryd.prog w = .ok (.enter fk args) w) :
    Calls Tryd.prog 30 #[.pointer (some ⟨tb, 0, none⟩), .func (.func fk) #[] caps] w (LetP w tb mb room life L Pd) := by
  have H := Lib.hid h
  have HL := Lib.hid hl
  obtain ⟨k0, k1, k2⟩ := h.cells
  have hlt := lt_of_heap h.box
  have hll := h.len
  clear h hl
  go_enter Tryd.func30, Tryd.ntmps30
  have F1 := Lib.hid ((Fr.refl No w).alloc (.cells #[.func (.func fk) #[] caps] 78))
  have H1 := Lib.hid (H.out.no F1.out)
  have LN := H1.out.mp.len (P := Tryd.prog) Tryd.underlying61 3
  rw [List.length_map] at LN
  go_wp2_with fail
  have B1 := Lib.hid (heap_alloc_new w (.cells #[.func (.func fk) #[] caps] 78))
  have HL1 := Lib.hid (show Looks (w.alloc (.cells #[.func (.func fk) #[] caps] 78)) mb fk caps Pd from fun W hW b e he hok => HL.out W (F1.out.of_no.trans hW) b e he hok)
  refine (fbMapDel_any H1.out B1.out HL1.out eg).mono ?_
  rintro e w3 ⟨⟨v, rfl⟩, hm3, hf3⟩
  have F3 := Lib.hid (F1.out.of_no.trans hf3)
  have H3 := Lib.hid (H1.out.filter _ hm3 hf3)
  have hlf : (L.filter fun p => !(Pd p.2.2)).length ≤ L.length := List.length_filter_le _ _
  have LN3 := H3.out.mp.len (P := Tryd.prog) Tryd.underlying61 3
  rw [List.length_map] at LN3
  obtain ⟨j0, j1, j2⟩ := H3.out.cells
  obtain ⟨n3, hn3⟩ : ∃ n, (L.filter fun p => !(Pd p.2.2)).length = n := ⟨_, rfl⟩
  rw [hn3] at LN3 hlf
  have HN3 := Lib.hid hn3
  clear LN k0 k1 k2 hm3 hf3 B1 HL1 H1 hn3
  go_wp2_with fail
  go_ret
  refine ⟨?_, H3.out, F3.out⟩
  rw [HN3.out]
  rfl

end Go.Proofs.YticebdoiahadoaaDoor
namespace Go.Proofs.YticebdoiahadoaaDoor
open Go.RowKit
set_option linter.unusedVariables false
set_option linter.unusedSimpArgs false
theorem macL_eq (x y : Mac) : (macL x == macL y) = decide (x = y) := by
  rw [Bool.eq_iff_iff, decide_eq_true_eq, beq_iff_eq]
  exact ⟨macL_inj, fun h => by rw [h]⟩
theorem eqM (x y : Mac) (w : World) : (binOp .eql 24 (evM x) (evM y)).run Tryd.prog w = .ok (.bool (decide (x = y))) w := by
  have h := run_eql_bytes (P := Tryd.prog) w 24 5 6 Tryd.underlying24 Tryd.underlying5 (fun w => Tryd.sizeOf5 w) (macL x) (macL y) rfl rfl
  rw [macL_eq] at h
  exact h
theorem neqM (x y : Mac) (w : World) : (binOp .neq 24 (evM x) (evM y)).run Tryd.prog w = .ok (.bool (!decide (x = y))) w := by
  change (binOp .neq 24 (.agg ((macL x).map Extern.Stop.cell).toArray) (.agg ((macL y).map Extern.Stop.cell).toArray)).run Tryd.prog w = _
  rw [run_neq_struct, run_equalIn_bytes w 9998 24 5 6 Tryd.underlying24 Tryd.underlying5 (fun w => Tryd.sizeOf5 w) (macL x) (macL y) rfl rfl, macL_eq]
  rfl
/-- A place. -/
structure Pl where
  tun : Bool
  n : Int
deriving DecidableEq, Inhabited
def evPL (p : Pl) : Value := .agg #[.bool p.tun, .int .i64 p.n]
def En.pl (e : En) : Pl := ⟨e.tun, e.n⟩
theorem eqPl (x y : Pl) (w : World) : (binOp .eql 34 (evPL x) (evPL y)).run Tryd.prog w = .ok (.bool (decide (x = y))) w := by
  have u3 := Tryd.underlying3
  have u4 := Tryd.underlying4
  have a3 := Tryd.isAgg3
  have a4 := Tryd.isAgg4
  have z3 := Tryd.sizeOf3
  have z4 := Tryd.sizeOf4
  have hS : Tryd.prog.underlying 34 = some (.struct (Tryd.prog.fieldsOf 34)) := by kernel_rfl
  have hp : Tryd.prog.stoodInHeld 34 = false := by kernel_rfl
  obtain ⟨a, b⟩ := x
  obtain ⟨a', b'⟩ := y
  simp only [evPL]
  rw [run_eql_struct, show (10000 : Nat) = 9999 + 1 from rfl, run_equalIn_agg w 9999 34 _ _ hS hp]
  simp only [Program.fieldsOf, Tryd.underlying34]
  go_simp
  by_cases h1 : a = a' <;> by_cases h2 : b = b' <;> simp [h1, h2]
theorem neqPl (x y : Pl) (w : World) : (binOp .neq 34 (evPL x) (evPL y)).run Tryd.prog w = .ok (.bool (!decide (x = y))) w := by
  have u3 := Tryd.underlying3
  have u4 := Tryd.underlying4
  have a3 := Tryd.isAgg3
  have a4 := Tryd.isAgg4
  have z3 := Tryd.sizeOf3
  have z4 := Tryd.sizeOf4
  have hS : Tryd.prog.underlying 34 = some (.struct (Tryd.prog.fieldsOf 34)) := by kernel_rfl
  have hp : Tryd.prog.stoodInHeld 34 = false := by kernel_rfl
  obtain ⟨a, b⟩ := x
  obtain ⟨a', b'⟩ := y
  simp only [evPL]
  rw [run_neq_struct, show (10000 : Nat) = 9999 + 1 from rfl, run_equalIn_agg w 9999 34 _ _ hS hp]
  simp only [Program.fieldsOf, Tryd.underlying34]
  go_simp
  by_cases h1 : a = a' <;> by_cases h2 : b = b' <;> simp [h1, h2]

set_option maxRecDepth 100000 in
set_option maxHeartbeats 2000000 in
theorem fbForgetF_any {W : World} {b p1 : Nat} {p : Pl} {e : En} (he : EnAt W b e) (hp1 : W.heap[p1]? = some (.cells #[.bool p.tun, .int .i64 p.n] 34 (0, 0))) {r : Bool} (hr : decide (e.pl = p) = r) :
    Calls Tryd.prog 31 #[evP b, .pointer (some ⟨p1, 0, none⟩)] W fun e' W' => e' = .returned (.bool r) ∧ Fr No W W' := by
  obtain ⟨-, -, -, -, -, -, c6, c7, -, -⟩ := he.cells
  have k0 : W.cell? ⟨p1, 0, none⟩ = some (.bool p.tun) := by rw [cell_of_row W p1 0 _ _ _ hp1]; rfl
  have k1 : W.cell? ⟨p1, 1, none⟩ = some (.int .i64 p.n) := by rw [cell_of_row W p1 1 _ _ _ hp1]; rfl
  have e1 : ∀ W, (binOp .eql 34 (.agg #[.bool e.tun, .int .i64 e.n]) (.agg #[.bool p.tun, .int .i64 p.n])).run Tryd.prog W = .ok (.bool r) W := fun W => by rw [← hr]; exact eqPl e.pl p W
  clear he hp1 hr
  unfold evP
  go_enter Tryd.func31, Tryd.ntmps31
  go_wp2_with fail
  go_quiet (fail)
  go_wp2_with fail
  go_ret
  exact ⟨rfl, (Fr.refl No W).drewN _⟩
end Go.Proofs.YticebdoiahadoaaDoor
namespace Go.Proofs.YticebdoiahadoaaDoor
open Go.RowKit
set_option linter.unusedVariables false
set_option linter.unusedSimpArgs false
theorem Fd.tne {w : World} {tb mb : Nat} {room life : Int} {L : FL} (h : Fd w tb mb room life L) : tb ≠ mb := by
  intro e
  obtain ⟨es, c, hm, -⟩ := h.mp.ex
  have := h.box
  rw [e, hm] at this; cases this
theorem Fd.bne {w : World} {tb mb : Nat} {room life : Int} {L : FL} (h : Fd w tb mb room life L) : ∀ p ∈ L, p.2.1 ≠ mb := by
  intro p hp e
  obtain ⟨es, c, hm, -⟩ := h.mp.ex
  have := h.ent p hp
  unfold EnAt at this
  rw [e, hm] at this; cases this
theorem Fd.btn {w : World} {tb mb : Nat} {room life : Int} {L : FL} (h : Fd w tb mb room life L) : ∀ p ∈ L, p.2.1 ≠ tb := by
  intro p hp e
  have h1 := h.ent p hp
  unfold EnAt at h1
  rw [e, h.box] at h1; cases h1

set_option maxRecDepth 100000 in
set_option maxHeartbeats 2000000 in
theorem fbForget_any {w : World} {tb mb : Nat} {room life : Int} {L : FL} (h : Fd w tb mb room life L) (p : Pl) :
    Calls Tryd.prog 21 #[.pointer (some ⟨tb, 0, none⟩), evPL p] w (LetP w tb mb room life L fun e => decide (e.pl = p)) := by
  have H := Lib.hid h
  have hlm := h.mp.lt
  clear h
  obtain ⟨pt, pn⟩ := p
  unfold evPL
  simp only
  go_enter Tryd.func21, Tryd.ntmps21
  go_wp2_with fail
  have f2 := (Fr.refl No w).alloc (.cells #[.bool pt, .int .i64 pn] 34)
  have b1 := heap_alloc_new w (.cells #[.bool pt, .int .i64 pn] 34)
  have H2 := Lib.hid (H.out.no f2)
  have F2 := Lib.hid f2
  clear f2
  generalize w.alloc (.cells #[.bool pt, .int .i64 pn] 34) = w2 at b1 H2 F2 ⊢
  have hlk : Looks w2 mb 31 #[.pointer (some ⟨w.heap.size, 0, none⟩)] (fun e => decide (e.pl = ⟨pt, pn⟩)) := by
    intro W hW b e he hok
    exact fbForgetF_any (p := ⟨pt, pn⟩) he (hW.heap b1 (fun h : _ = _ => by omega)) rfl
  have HLK := Lib.hid hlk
  clear b1 hlk
  refine (fbLet_any H2.out HLK.out (enters_of Tryd.func31 (by kernel_rfl) rfl)).mono ?_
  rintro e w3 ⟨rfl, h3, f3⟩
  have H3 := Lib.hid h3
  have F3 := Lib.hid (F2.out.of_no.trans f3)
  clear h3 f3
  go_wp2_with fail
  go_ret
  exact ⟨rfl, H3.out, F3.out⟩

set_option maxRecDepth 100000 in
theorem fbNew_any (w : World) (room life : Int) (hl0 : 0 ≤ life) (hl1 : life < 18446744073709551616) :
    Calls Tryd.prog 13 #[.int .i64 room, .int .u64 life] w fun e w' => e = .returned (.pointer (some ⟨w.heap.size + 1, 0, none⟩)) ∧ Fd w' (w.heap.size + 1) w.heap.size (min (max room 1) 64) life [] ∧ Fr No w w' := by
  have hmm := @run_makeMap Tryd.prog
  go_enter Tryd.func13, Tryd.ntmps13
  go_wp2_with fail
  go_ret
  have h1 : (w.alloc (.map #[] 0)).heap.size = w.heap.size + 1 := by simp
  refine ⟨rfl, ⟨?_, (Mp.made w).no ((Fr.refl _ _).alloc _), fun p hp => (by cases hp), fun p hp => (by cases hp), fun p hp => (by cases hp), (by simp), (by simp), ⟨hl0, hl1⟩, by omega, by simp; omega⟩, ((Fr.refl _ _).alloc _).alloc _⟩
  rw [← h1]; exact heap_alloc_new _ _
end Go.Proofs.YticebdoiahadoaaDoor
namespace Go.Proofs.YticebdoiahadoaaDoor
open Go.RowKit
set_option linter.unusedVariables false
set_option linter.unusedSimpArgs false
theorem cells2 {w : World} {b : Nat} {c0 c1 : Value} {e : TypeId} {f : Nat × Nat} (h : w.heap[b]? = some (.cells #[c0, c1] e f)) : w.cell? ⟨b, 0, none⟩ = some c0 ∧ w.cell? ⟨b, 1, none⟩ = some c1 :=
  ⟨by rw [cell_of_row w b 0 _ e f h]; rfl, by rw [cell_of_row w b 1 _ e f h]; rfl⟩
theorem free2 {w : World} {b : Nat} {c0 c1 : Value} {e : TypeId} (h : w.heap[b]? = some (.cells #[c0, c1] e (0, 0))) : w.frozen? ⟨b, 0, none⟩ = false ∧ w.frozen? ⟨b, 1, none⟩ = false := ⟨frozen_of_row w b 0 _ e h, frozen_of_row w b 1 _ e h⟩
theorem set2 {w : World} {b : Nat} {c0 c1 : Value} {e : TypeId} (h : w.heap[b]? = some (.cells #[c0, c1] e (0, 0))) (d0 d1 : Value) :
    ((w.setCell ⟨b, 0, none⟩ d0).setCell ⟨b, 1, none⟩ d1).heap[b]? = some (.cells #[d0, d1] e (0, 0)) := by
  have h1 : ∀ (w : World) (cs : Array Value) (j : Nat) (u : Value), w.heap[b]? = some (.cells cs e (0, 0)) → (w.setCell ⟨b, j, none⟩ u).heap[b]? = some (.cells (cs.setIfInBounds j u) e (0, 0)) := by
    intro w cs j u h
    simp only [World.setCell, Array.getElem?_modify, if_true, h, Option.map_some, Option.isSome_none, Bool.false_eq_true, if_false]
  have := h1 _ _ 1 d1 (h1 _ _ 0 d0 h)
  simpa using this
/-- The map's answer. -/
theorem Fd.look {w : World} {tb mb : Nat} {room life : Int} {L : FL} (h : Fd w tb mb room life L) (m : Mac) (W : World) (hW : W.heap[mb]? = w.heap[mb]?) :
    (Instr.lookup 61 (.map (some mb)) (evM m) false).run Tryd.prog W = .ok (.pointer ((mget L m).map fun p => ⟨p.1, 0, none⟩)) W := by
  have h1 := (h.mp.of_heap hW).look keM Tryd.underlying61 zeroP (k := m) trivial false
  rw [h1]
  have e : mget (L.map pr) m = (mget L m).map (·.1) := by
    unfold mget
    rw [List.find?_map, Option.map_map, Option.map_map]
    rfl
  rw [e]
  cases mget L m <;> rfl
theorem Fd.nd {w : World} {tb mb : Nat} {room life : Int} {L : FL} (h : Fd w tb mb room life L) : (L.map (·.1)).Nodup := by have := h.mp.nd; rw [List.map_map] at this; exact this
/-- What Find finds. -/
def findF (life : Int) (L : FL) (m : Mac) (now : Int) : Option Pl := (mget L m).bind fun p => if oldE life p.2 now = true then none else some p.2.pl
def FindPF (w : World) (o : Option Pl) (e : Ending) (w' : World) : Prop := e = .returned (.tuple #[evPL (o.getD ⟨false, 0⟩), .bool o.isSome]) ∧ Fr No w w'

set_option maxRecDepth 100000 in
set_option maxHeartbeats 2000000 in
theorem fbFind_any {w : World} {tb mb : Nat} {room life : Int} {L : FL} (h : Fd w tb mb room life L) (m : Mac) {now : Int} (hn0 : 0 ≤ now) (hn1 : now < 18446744073709551616) {o : Option Pl} (ho : findF life L m now = o) :
    Calls Tryd.prog 12 #[.pointer (some ⟨tb, 0, none⟩), evM m, .int .u64 now] w (FindPF w o) := by
  have H := Lib.hid h
  have hlm := h.mp.lt
  have hlt := lt_of_heap h.box
  clear h
  unfold evM
  go_enter Tryd.func12, Tryd.ntmps12
  go_wp2_with fail
  have f2 := ((Fr.refl No w).alloc (.cells #[byteV m.a, byteV m.b, byteV m.c, byteV m.d, byteV m.e, byteV m.f] 24)).alloc (.cells #[.bool false, .int .i64 0] 34)
  have b1 := ((Fr.refl No _).alloc (.cells #[.bool false, .int .i64 0] 34)).heap (heap_alloc_new w (.cells #[byteV m.a, byteV m.b, byteV m.c, byteV m.d, byteV m.e, byteV m.f] 24)) (fun h => h)
  have b2 := heap_alloc_new (w.alloc (.cells #[byteV m.a, byteV m.b, byteV m.c, byteV m.d, byteV m.e, byteV m.f] 24)) (.cells #[.bool false, .int .i64 0] 34)
  rw [show (w.alloc (.cells #[byteV m.a, byteV m.b, byteV m.c, byteV m.d, byteV m.e, byteV m.f] 24)).heap.size = w.heap.size + 1 from by simp] at b2
  have H2 := Lib.hid (H.out.no f2)
  have F2 := Lib.hid f2
  have B2 := Lib.hid b2
  clear f2 b2
  generalize (w.alloc (.cells #[byteV m.a, byteV m.b, byteV m.c, byteV m.d, byteV m.e, byteV m.f] 24)).alloc (.cells #[.bool false, .int .i64 0] 34) = wv at b1 B2 H2 F2 ⊢
  obtain ⟨c0, c1, c2, c3, c4, c5⟩ := cells6 b1
  obtain ⟨k0, k1, k2⟩ := H2.out.cells
  have lk := fun n => H2.out.look m (wv.drewN n) rfl
  unfold evM at lk
  obtain ⟨g, hg⟩ : ∃ g, mget L m = g := ⟨_, rfl⟩
  unfold findF at ho
  rw [hg] at ho lk
  have HG := Lib.hid hg
  have HO := Lib.hid ho
  clear b1 hg ho
  cases g with
  | none =>
    simp only [Option.map_none] at lk
    have hz := HO.out
    simp only [Option.bind_none] at hz
    subst hz
    go_quiet (fail)
    generalize hw8 : World.drewN _ _ = w8
    have hb2 : w8.heap[w.heap.size + 1]? = some (.cells #[.bool false, .int .i64 0] 34 (0, 0)) := by rw [← hw8]; exact B2.out
    have F8 := Lib.hid (show Fr No w w8 by rw [← hw8]; exact F2.out.drewN _)
    clear hw8 c0 c1 c2 c3 c4 c5 k0 k1 k2 lk B2 F2 H2
    obtain ⟨q0, q1⟩ := cells2 hb2
    obtain ⟨p0, p1⟩ := free2 hb2
    have B8 := Lib.hid hb2
    clear hb2
    go_wp2_with fail
    have zz := set2 B8.out (.bool false) (.int .i64 0)
    have FF := Lib.hid ((F8.out.setCell (p := ⟨w.heap.size + 1, 0, none⟩) (.inr (by simp)) (.bool false)).setCell (p := ⟨w.heap.size + 1, 1, none⟩) (.inr (by simp)) (.int .i64 0))
    clear q0 q1 p0 p1
    generalize ((w8.setCell ⟨w.heap.size + 1, 0, none⟩ (.bool false)).setCell ⟨w.heap.size + 1, 1, none⟩ (.int .i64 0)) = wz at zz FF ⊢
    obtain ⟨s0, s1⟩ := cells2 zz
    refine bodyPost_ret (v := .tuple #[evPL ⟨false, 0⟩, .bool false]) (by simp [results, Tryd.results12, go_sem, evPL, s0, s1]) rfl ?_
    exact ⟨rfl, FF.out⟩
  | some q =>
    obtain ⟨b, e⟩ := q
    simp only [Option.map_some] at lk
    go_quiet (fail)
    generalize hw8 : World.drewN _ _ = w8
    have B8 := Lib.hid (show w8.heap[w.heap.size + 1]? = some (.cells #[.bool false, .int .i64 0] 34 (0, 0)) by rw [← hw8]; exact B2.out)
    have F8 := Lib.hid (show Fr No w w8 by rw [← hw8]; exact F2.out.drewN _)
    have H8 := Lib.hid (show Fd w8 tb mb room life L by rw [← hw8]; exact H2.out.no ((Fr.refl _ _).drewN _))
    clear hw8 c0 c1 c2 c3 c4 c5 k0 k1 k2 lk B2 F2 H2
    have hq := mget_some HG.out
    have HE := Lib.hid (H8.out.ent _ hq)
    have HK := Lib.hid (H8.out.ok _ hq)
    simp only at HE HK
    obtain ⟨r, hr⟩ : ∃ r, oldE life e now = r := ⟨_, rfl⟩
    have HR := Lib.hid hr
    clear hq hr
    go_wp2_with fail
    refine (fbOld_any H8.out.box HE.out HK.out hn0 hn1 HR.out).mono ?_
    rintro e' w9 ⟨rfl, j, rfl⟩
    generalize hw9 : World.drewN _ _ = w9
    have HE9 := Lib.hid (show EnAt w9 b e by rw [← hw9]; exact HE.out)
    have B9 := Lib.hid (show w9.heap[w.heap.size + 1]? = some (.cells #[.bool false, .int .i64 0] 34 (0, 0)) by rw [← hw9]; exact B8.out)
    have F9 := Lib.hid (show Fr No w w9 by rw [← hw9]; exact F8.out.drewN _)
    clear hw9 HE B8 F8 H8
    obtain ⟨-, -, -, -, -, -, c6, c7, -, -⟩ := HE9.out.cells
    obtain ⟨q0, q1⟩ := cells2 B9.out
    obtain ⟨p0, p1⟩ := free2 B9.out
    cases r
    · go_wp2_with fail
      have zz := set2 B9.out (.bool e.tun) (.int .i64 e.n)
      have FF := Lib.hid ((F9.out.setCell (p := ⟨w.heap.size + 1, 0, none⟩) (.inr (by simp)) (.bool e.tun)).setCell (p := ⟨w.heap.size + 1, 1, none⟩) (.inr (by simp)) (.int .i64 e.n))
      clear q0 q1 p0 p1
      generalize ((w9.setCell ⟨w.heap.size + 1, 0, none⟩ (.bool e.tun)).setCell ⟨w.heap.size + 1, 1, none⟩ (.int .i64 e.n)) = wz at zz FF ⊢
      obtain ⟨s0, s1⟩ := cells2 zz
      refine bodyPost_ret (v := .tuple #[evPL ⟨e.tun, e.n⟩, .bool true]) (by simp [results, Tryd.results12, go_sem, evPL, s0, s1]) rfl ?_
      refine ⟨?_, FF.out⟩
      have hz := HO.out
      simp only [Option.bind_some, HR.out, Bool.false_eq_true, if_false] at hz
      rw [← hz]
      rfl
    · go_wp2_with fail
      have zz := set2 B9.out (.bool false) (.int .i64 0)
      have FF := Lib.hid ((F9.out.setCell (p := ⟨w.heap.size + 1, 0, none⟩) (.inr (by simp)) (.bool false)).setCell (p := ⟨w.heap.size + 1, 1, none⟩) (.inr (by simp)) (.int .i64 0))
      clear q0 q1 p0 p1
      generalize ((w9.setCell ⟨w.heap.size + 1, 0, none⟩ (.bool false)).setCell ⟨w.heap.size + 1, 1, none⟩ (.int .i64 0)) = wz at zz FF ⊢
      obtain ⟨s0, s1⟩ := cells2 zz
      refine bodyPost_ret (v := .tuple #[evPL ⟨false, 0⟩, .bool false]) (by simp [results, Tryd.results12, go_sem, evPL, s0, s1]) rfl ?_
      refine ⟨?_, FF.out⟩
      have hz := HO.out
      simp only [Option.bind_some, HR.out, if_true] at hz
      rw [← hz]
      rfl
end Go.Proofs.YticebdoiahadoaaDoor
namespace Go.Proofs.YticebdoiahadoaaDoor
open Go.RowKit
set_option linter.unusedVariables false
set_option linter.unusedSimpArgs false
set_option maxRecDepth 100000 in
theorem fbAddF_any {W : World} {b : Nat} {e : En} (he : EnAt W b e) {r : Bool} (hr : e.st = r) : Calls Tryd.prog 45 #[evP b] W fun e' W' => e' = .returned (.bool r) ∧ Fr No W W' := by
  obtain ⟨-, -, -, -, -, -, -, -, -, c9⟩ := he.cells
  rw [hr] at c9
  clear he hr
  unfold evP
  go_enter Tryd.func45, Tryd.ntmps45
  go_wp2_with fail
  go_ret
  exact ⟨rfl, Fr.refl No W⟩
/-- A predicate on pointers, as a Go function value that only looks; it holds in every world that differs in the set S alone. -/
def LooksP (w : World) (S : Nat → Prop) (fk : Nat) (caps : Array Value) (xs : List Nat) (Pd : Nat → Bool) : Prop :=
  ∀ W, Fr S w W → ∀ b ∈ xs, Calls Tryd.prog fk (#[evP b] ++ caps) W fun r W' => r = .returned (.bool (Pd b)) ∧ Fr No W W'
theorem flatP (xs : List Nat) (i : Nat) : (xs.map evP)[i]? = (xs[i]?).map evP := by rw [List.getElem?_map]
/-- What IndexFunc says. -/
def IdxP (xs : List Nat) (Pd : Nat → Bool) (z : Int) : Prop := (z = -1 ∧ ∀ b ∈ xs, Pd b = false) ∨ ∃ (i : Nat) (b : Nat), z = (i : Int) ∧ xs[i]? = some b ∧ Pd b = true ∧ ∀ b' ∈ xs.take i, Pd b' = false

set_option maxRecDepth 100000 in
set_option maxHeartbeats 1000000 in
theorem fbIndexFunc_any {w : World} {ao : Option Addr} {n cap : Nat} {xs : List Nat} (hn : n = xs.length) (ho : Own w 60 1 ao n cap (xs.map evP)) {fk : Nat} {caps : Array Value} {Pd : Nat → Bool} {S : Nat → Prop} (hl : LooksP w S fk caps xs Pd)
    (eg : ∀ args w, (callFunc fk args).run Tryd.prog w = .ok (.enter fk args) w) :
    Calls Tryd.prog 51 #[.slice ao n cap, .func (.func fk) #[] caps] w fun e w' => (∃ z, e = .returned (.int .i64 z) ∧ IdxP xs Pd z) ∧ Fr No w w' := by
  have HN := Lib.hid hn
  have HO := Lib.hid ho
  have HL := Lib.hid hl
  have hc1 := ho.le
  have hc2 := ho.capLe
  clear hn ho hl
  go_enter Tryd.func51, Tryd.ntmps51
  go_wp2_with fail
  go_loopw [8] (fun t8 wr => ∃ j : Nat, j ≤ n ∧ t8 = .int .i64 j ∧ (∀ b ∈ xs.take j, Pd b = false) ∧ Fr No w wr) (fun t8 _ => n - (intOf t8).toNat)
  case atStart => exact ⟨0, by omega, rfl, by simp, Fr.refl _ _⟩
  case round =>
    obtain ⟨j, hj, rfl, hno, hf⟩ := hrel
    have HNO := Lib.hid hno
    have HF := Lib.hid hf
    clear hno hf
    by_cases hlt : j < n
    · obtain ⟨b, hb⟩ : ∃ b, xs[j]? = some b := ⟨xs[j]'(by rw [← HN.out]; exact hlt), List.getElem?_eq_getElem _⟩
      have HB := Lib.hid hb
      have bj : (j : Int) < (n : Int) := by omega
      cases ao with
      | none => exfalso; have := HO.out.nocap rfl; omega
      | some g =>
        obtain ⟨hg0, -⟩ := HO.out.row g rfl
        obtain ⟨gb, goff, gsp⟩ := g
        cases hg0
        have c0 : wr.cell? ⟨gb, j, none⟩ = some (evP b) := by
          have := (HO.out.no HF.out).sl.cell _ rfl j (evP b) (by rw [flatP, hb]; rfl)
          rwa [Addr.add_lit, Nat.zero_add] at this
        unfold evP at c0
        obtain ⟨r, hr⟩ : ∃ r, Pd b = r := ⟨_, rfl⟩
        have HR := Lib.hid hr
        have HC := Lib.hid (HL.out wr HF.out.of_no b (List.mem_of_getElem? hb))
        rw [hr] at HC
        have hsn : xs.take (j + 1) = xs.take j ++ [b] := by rw [List.take_add_one, hb]; rfl
        have HSN := Lib.hid hsn
        clear hb hr hsn
        go_wp2_with fail
        refine HC.out.mono ?_
        rintro e w3 ⟨rfl, f3⟩
        have F3 := Lib.hid (HF.out.then_no f3)
        clear f3 c0 HC
        cases r
        · go_wp2_with fail
          go_roundw
          case rel => exact ⟨j + 1, by omega, by go_num, (by
            intro b' hb'
            rw [HSN.out] at hb'
            rcases List.mem_append.1 hb' with h | h
            · exact HNO.out b' h
            · rw [List.mem_singleton] at h; rw [h]; exact HR.out), F3.out⟩
          case measure => simp [intOf]; omega
        · go_wp2_with fail
          go_ret
          exact ⟨⟨j, rfl, .inr ⟨j, b, rfl, HB.out, HR.out, HNO.out⟩⟩, F3.out⟩
    · have htk : xs.take j = xs := List.take_of_length_le (by have := HN.out; omega)
      rw [htk] at HNO
      clear htk
      go_wp2_with fail
      go_ret
      exact ⟨⟨-1, rfl, .inl ⟨rfl, HNO.out⟩⟩, HF.out⟩
end Go.Proofs.YticebdoiahadoaaDoor