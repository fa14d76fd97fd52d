/- bridge: frame. -/
import Derived.Test.YticebdoiahadoaaDoorBgQ
import Derived.Laws.Cover3
import Derived.Deep.DeepCutAuto
namespace Go.Proofs.YticebdoiahadoaaDoor
open Go.RowKit
set_option linter.unusedVariables false
set_option linter.unusedSimpArgs false
/-- What 'frame' leaves. -/
def FrameP (w : World) (m : SgM) (room life : Int) (r : AOut × Int × AL) (e : Ending) (w' : World) : Prop :=
  ∃ po pc qo qc L', e = .returned (.tuple #[.agg #[.slice po r.1.ps.length pc, .slice qo r.1.qs.length qc, .bool r.1.fl], .int .i64 r.2.1]) ∧ OI w' po r.1.ps.length pc r.1.ps ∧ OI w' qo r.1.qs.length qc r.1.qs ∧
    (∀ a, po = some a → w.heap.size ≤ a.block) ∧ (∀ a, qo = some a → w.heap.size ≤ a.block) ∧ Fd w' m.tb m.mb room life L' ∧ Ab L' r.2.2 ∧ Nb w m.L L' ∧ Fr (FS m.mb m.L) w w'
theorem cells3 {w : World} {b : Nat} {c0 c1 c2 : Value} {e : TypeId} {f : Nat × Nat} (h : w.heap[b]? = some (.cells #[c0, c1, c2] e f)) : w.cell? ⟨b, 0, none⟩ = some c0 ∧ w.cell? ⟨b, 1, none⟩ = some c1 ∧ w.cell? ⟨b, 2, none⟩ = some c2 :=
  ⟨by rw [cell_of_row w b 0 _ e f h]; rfl, by rw [cell_of_row w b 1 _ e f h]; rfl, by rw [cell_of_row w b 2 _ e f h]; rfl⟩
theorem free3 {w : World} {b : Nat} {cs : Array Value} {e : TypeId} (h : w.heap[b]? = some (.cells cs e (0, 0))) : w.frozen? ⟨b, 0, none⟩ = false ∧ w.frozen? ⟨b, 1, none⟩ = false ∧ w.frozen? ⟨b, 2, none⟩ = false := ⟨frozen_of_row w b 0 _ e h, frozen_of_row w b 1 _ e h, frozen_of_row w b 2 _ e h⟩
theorem set3 {w : World} {b : Nat} {c0 c1 c2 : Value} {e : TypeId} (h : w.heap[b]? = some (.cells #[c0, c1, c2] e (0, 0))) (d0 d1 d2 : Value) :
    (((w.setCell ⟨b, 0, none⟩ d0).setCell ⟨b, 1, none⟩ d1).setCell ⟨b, 2, none⟩ d2).heap[b]? = some (.cells #[d0, d1, d2] e (0, 0)) := by
  have := set_row (set_row (set_row h 0 d0) 1 d1) 2 d2
  simpa using this
theorem macOf_enc (bs : List UInt8) (o : Nat) : encM (macOf bs o) = [byteV (bs.getD o 0), byteV (bs.getD (o + 1) 0), byteV (bs.getD (o + 2) 0), byteV (bs.getD (o + 3) 0), byteV (bs.getD (o + 4) 0), byteV (bs.getD (o + 5) 0)] := rfl

/-- No Out, the base as it is. -/
theorem FrameP.none {w w' : World} {m : SgM} {room life : Int} {s : AS} (h : SgAt w room life m s) {c : Int} (hf : Fr No w w') : FrameP w m room life (noOut, c, s.A) (.returned (.tuple #[.agg #[.slice none 0 0, .slice none 0 0, .bool false], .int .i64 c])) w' :=
  ⟨_, 0, _, 0, m.L, rfl, OI.nil _, OI.nil _, (fun a ha => by cases ha), (fun a ha => by cases ha), h.fd.no hf, h.ab, Nb.sub fun _ h => h, hf.of_no⟩
/-- The bytes of a frame. -/
theorem bs_cells {w : World} {a : Addr} {n cap : Nat} {bs : List UInt8} (h : Bs w (some a) n cap bs) (hs : a.spot = none) (k : Nat) (hk : k < bs.length) : w.cell? ⟨a.block, a.off + k, none⟩ = some (byteV (bs.getD k 0)) := by
  have := h.2.cell a rfl k (byteV (bs.getD k 0)) (by simp [bytesV, List.getD_eq_getElem?_getD, List.getElem?_eq_getElem hk])
  obtain ⟨b, o, sp⟩ := a
  cases hs
  rwa [Addr.add_lit] at this
theorem bs_spot {w : World} {a : Addr} {n cap : Nat} {bs : List UInt8} (h : Bs w (some a) n cap bs) (hk : 0 < bs.length) : a.spot = none := by
  have h1 := h.2.cell a rfl 0 (byteV (bs.getD 0 0)) (by simp [bytesV, List.getD_eq_getElem?_getD, List.getElem?_eq_getElem hk])
  exact World.cell?_spot h1

theorem two_new {w : World} {s : Nat} (hs : w.heap.size = s) (x y : Array Value) (t u : TypeId) : ((w.alloc (.cells x t)).alloc (.cells y u)).drew.heap[s]? = some (.cells x t (0, 0)) ∧ ((w.alloc (.cells x t)).alloc (.cells y u)).drew.heap[s + 1]? = some (.cells y u (0, 0)) := by
  subst hs
  refine ⟨((Fr.refl No _).alloc _).drew.heap (heap_alloc_new w (.cells x t)) (by simp [No]), ?_⟩
  have := heap_alloc_new (w.alloc (.cells x t)) (.cells y u)
  simpa [World.drew] using this
theorem fr3 {S : Nat → Prop} {w w1 : World} (h : Fr S w w1) {b : Nat} (hb : w.heap.size ≤ b) (d0 d1 d2 : Value) : Fr S w (((w1.setCell ⟨b, 0, none⟩ d0).setCell ⟨b, 1, none⟩ d1).setCell ⟨b, 2, none⟩ d2) :=
  ((h.setCell (p := ⟨b, 0, none⟩) (.inr hb) _).setCell (p := ⟨b, 1, none⟩) (.inr hb) _).setCell (p := ⟨b, 2, none⟩) (.inr hb) _
theorem SgAt.fsLt {w : World} {room life : Int} {m : SgM} {s : AS} (h : SgAt w room life m s) {k : Nat} (hk : FS m.mb m.L k) : k < w.heap.size := h.lt (fs_all hk)
theorem SgAt.fsSb {w : World} {room life : Int} {m : SgM} {s : AS} (h : SgAt w room life m s) : ¬ FS m.mb m.L m.sb := by
  obtain ⟨n1, n2, n3, n4, n5⟩ := h.sbne
  rintro (e | ⟨p, hp, e⟩)
  · exact n2 e
  · exact n3 p hp e.symm
theorem bout_ne : 37 ≠ 63 ∧ 37 ≠ 66 := by decide
theorem Fd.bout {w w' : World} {tb mb : Nat} {room life : Int} {L : FL} (h : Fd w tb mb room life L) {b : Nat} {cs : Array Value} (hb : w.heap[b]? = some (.cells cs 37 (0, 0))) (hf : Fr (Is b) w w') : Fd w' tb mb room life L := by
  refine h.fr hf (fun e => ?_) (fun e => ?_) (fun p hp e => ?_)
  · have h1 := h.box
    rw [show tb = b from e, hb] at h1; simp at h1
  · obtain ⟨es, c, hm, -⟩ := h.mp.ex
    rw [show mb = b from e, hb] at hm; cases hm
  · have h1 := h.ent p hp
    unfold EnAt at h1
    rw [show p.2.1 = b from e, hb] at h1; simp at h1
theorem frIs3 (w4 : World) (b : Nat) (d0 d1 d2 : Value) : Fr (Is b) w4 (((w4.setCell ⟨b, 0, none⟩ d0).setCell ⟨b, 1, none⟩ d1).setCell ⟨b, 2, none⟩ d2) :=
  (((Fr.refl (Is b) w4).setCell (p := ⟨b, 0, none⟩) (.inl (show b = b from rfl)) _).setCell (p := ⟨b, 1, none⟩) (.inl (show b = b from rfl)) _).setCell (p := ⟨b, 2, none⟩) (.inl (show b = b from rfl)) _
/-- The end of 'frame'. -/
theorem frame_done {w w4 : World} {room life : Int} {m : SgM} {L2 : FL} {A2 : AL} {r : AOut × Int × AL} (fd : Fd w4 m.tb m.mb room life L2) (ab : Ab L2 A2) (nb : Nb w m.L L2) (fw : Fr (FS m.mb m.L) w w4) {cs : Array Value} (ro : w4.heap[w.heap.size + 1]? = some (.cells cs 37 (0, 0)))
    {po qo : Option Addr} {np pc nq qc : Nat} {ps qs : List Int} {fl : Bool} {c : Int} (hp : OI w4 po np pc ps) (hpb : ∀ a, po = some a → w.heap.size + 2 ≤ a.block) (hq : OI w4 qo nq qc qs) (hqb : ∀ a, qo = some a → w.heap.size + 2 ≤ a.block) (hr : r = (⟨ps, qs, fl⟩, c, A2)) (d0 d1 d2 : Value) :
    FrameP w m room life r (.returned (.tuple #[.agg #[.slice po np pc, .slice qo nq qc, .bool fl], .int .i64 c])) (((w4.setCell ⟨w.heap.size + 1, 0, none⟩ d0).setCell ⟨w.heap.size + 1, 1, none⟩ d1).setCell ⟨w.heap.size + 1, 2, none⟩ d2) := by
  subst hr
  obtain rfl := hp.1
  obtain rfl := hq.1
  have f3 := frIs3 w4 (w.heap.size + 1) d0 d1 d2
  exact ⟨po, pc, qo, qc, L2, rfl, hp.fr f3 (fun a h e => by have := hpb a h; simp only [Is] at e; omega), hq.fr f3 (fun a h e => by have := hqb a h; simp only [Is] at e; omega), fun a h => by have := hpb a h; omega, fun a h => by have := hqb a h; omega, fd.bout ro f3, ab, nb, fr3 fw (by omega) d0 d1 d2⟩
theorem FrameP.no {w w' w'' : World} {m : SgM} {room life : Int} {r : AOut × Int × AL} {e : Ending} (h : FrameP w m room life r e w') (hf : Fr No w' w'') : FrameP w m room life r e w'' := by
  obtain ⟨po, pc, qo, qc, L', he, h1, h2, h3, h4, h5, h6, h7, h8⟩ := h
  exact ⟨po, pc, qo, qc, L', he, h1.no hf, h2.no hf, h3, h4, h5.no hf, h6, h7, h8.then_no hf⟩
theorem st14 {x : Nat} {w w' : World} (h : Fr (Is x) w w') (i : Nat) (v : Value) : Fr (Is x) w (w'.setCell ⟨x, i, none⟩ v) := h.setCell (p := ⟨x, i, none⟩) (.inl (show x = x from rfl)) v
theorem OI_one (w : World) (n : Int) : OI (w.alloc (.cells #[.int .i64 n] 3)) (some ⟨w.heap.size, 0, none⟩) 1 1 [n] :=
  ⟨rfl, ⟨by simp, Nat.le_refl _, by omega, (fun h => by cases h), fun a ha => by cases ha; exact ⟨rfl, _, heap_alloc_new w (.cells #[.int .i64 n] 3), by simp, by simp [evI]⟩⟩⟩
theorem frame_one {w w4 : World} {room life : Int} {m : SgM} {L2 : FL} {A2 : AL} {r : AOut × Int × AL} (fd : Fd w4 m.tb m.mb room life L2) (ab : Ab L2 A2) (nb : Nb w m.L L2) (fw : Fr (FS m.mb m.L) w w4) {cs : Array Value} (ro : w4.heap[w.heap.size + 1]? = some (.cells cs 37 (0, 0))) (n : Int) (d0 d1 d2 : Value) :
    (r = (⟨[n], [], false⟩, 0, A2) → FrameP w m room life r (.returned (.tuple #[.agg #[.slice (some ⟨w4.heap.size, 0, none⟩) 1 1, .slice none 0 0, .bool false], .int .i64 0])) ((((w4.setCell ⟨w.heap.size + 1, 0, none⟩ d0).setCell ⟨w.heap.size + 1, 1, none⟩ d1).setCell ⟨w.heap.size + 1, 2, none⟩ d2).alloc (.cells #[.int .i64 n] 3))) ∧
    (r = (⟨[], [n], false⟩, 0, A2) → FrameP w m room life r (.returned (.tuple #[.agg #[.slice none 0 0, .slice (some ⟨w4.heap.size, 0, none⟩) 1 1, .bool false], .int .i64 0])) ((((w4.setCell ⟨w.heap.size + 1, 0, none⟩ d0).setCell ⟨w.heap.size + 1, 1, none⟩ d1).setCell ⟨w.heap.size + 1, 2, none⟩ d2).alloc (.cells #[.int .i64 n] 3))) := by
  have f3 := frIs3 w4 (w.heap.size + 1) d0 d1 d2
  have fw3 := fr3 fw (b := w.heap.size + 1) (by omega) d0 d1 d2
  have hs : (((w4.setCell ⟨w.heap.size + 1, 0, none⟩ d0).setCell ⟨w.heap.size + 1, 1, none⟩ d1).setCell ⟨w.heap.size + 1, 2, none⟩ d2).heap.size = w4.heap.size := by simp [World.setCell]
  have hw : w.heap.size ≤ w4.heap.size := fw.size
  generalize World.setCell _ _ _ = wq at f3 fw3 hs ⊢
  have ho := OI_one wq n
  rw [hs] at ho
  constructor
  · rintro rfl
    exact ⟨some ⟨w4.heap.size, 0, none⟩, 1, none, 0, L2, rfl, ho, OI.nil _, (fun a h => by cases h; exact hw), (fun a h => by cases h), (fd.bout ro f3).no ((Fr.refl No _).alloc _), ab, nb, fw3.alloc _⟩
  · rintro rfl
    exact ⟨none, 0, some ⟨w4.heap.size, 0, none⟩, 1, L2, rfl, OI.nil _, ho, (fun a h => by cases h), (fun a h => by cases h; exact hw), (fd.bout ro f3).no ((Fr.refl No _).alloc _), ab, nb, fw3.alloc _⟩
theorem aft2a {w0 w2 w3 : World} {c0 c1 : Value} {t : TypeId} (hw : w0.heap.size ≤ w2.heap.size) (f : Fr No (w2.alloc (.cells #[c0, c1] t)).drew w3) (d0 d1 : Value) :
    ((w3.setCell ⟨w2.heap.size, 0, none⟩ d0).setCell ⟨w2.heap.size, 1, none⟩ d1).heap[w2.heap.size]? = some (.cells #[d0, d1] t (0, 0)) ∧ Fr No w2 ((w3.setCell ⟨w2.heap.size, 0, none⟩ d0).setCell ⟨w2.heap.size, 1, none⟩ d1) ∧ w0.heap.size ≤ w2.heap.size := by
  have h : w3.heap[w2.heap.size]? = some (.cells #[c0, c1] t (0, 0)) := f.heap (heap_alloc_new w2 (.cells #[c0, c1] t)) (fun h => h)
  have := set_row (set_row h 0 d0) 1 d1
  exact ⟨by simpa using this, ((((Fr.refl No w2).alloc (.cells #[c0, c1] t)).drew.trans f).setCell (p := ⟨w2.heap.size, 0, none⟩) (.inr (Nat.le_refl _)) _).setCell (p := ⟨w2.heap.size, 1, none⟩) (.inr (Nat.le_refl _)) _, hw⟩
theorem aft2b {w0 w2 w3 : World} {t : TypeId} (hw : w0.heap.size ≤ w2.heap.size) (f : Fr No w2.drew w3) (d0 d1 : Value) :
    (w3.alloc (.cells #[d0, d1] t)).heap[w3.heap.size]? = some (.cells #[d0, d1] t (0, 0)) ∧ Fr No w2 (w3.alloc (.cells #[d0, d1] t)) ∧ w0.heap.size ≤ w3.heap.size :=
  ⟨heap_alloc_new w3 (.cells #[d0, d1] t), (((Fr.refl No w2).drew.trans f).alloc _), Nat.le_trans hw f.size⟩
theorem box2 {w w' : World} {c0 c1 : Value} {t : TypeId} (f : Fr No (w.alloc (.cells #[c0, c1] t)).drew w') : w'.cell? ⟨w.heap.size, 0, none⟩ = some c0 ∧ w'.cell? ⟨w.heap.size, 1, none⟩ = some c1 ∧ w'.frozen? ⟨w.heap.size, 0, none⟩ = false ∧ w'.frozen? ⟨w.heap.size, 1, none⟩ = false := by
  have h : w'.heap[w.heap.size]? = some (.cells #[c0, c1] t (0, 0)) := f.heap (heap_alloc_new w (.cells #[c0, c1] t)) (fun h => h)
  exact ⟨(cells2 h).1, (cells2 h).2, frozen_of_row w' w.heap.size 0 _ t h, frozen_of_row w' w.heap.size 1 _ t h⟩
theorem al_cell {w : World} {a : Addr} {v : Value} (h : w.cell? a = some v) (o : Obj) : (w.alloc o).cell? a = some v := by
  rw [World.cell?_alloc_lt w o a (lt_of_cell h)]; exact h
set_option maxRecDepth 100000 in
set_option maxHeartbeats 8000000 in
theorem bgFrame_any {w : World} {room life : Int} {m : SgM} {s : AS} (h : SgAt w room life m s) (hpl : s.ps.length ≤ 16) (hql : s.qs.length ≤ 8) (fr : Pl) (hfr : -9223372036854775808 ≤ fr.n ∧ fr.n ≤ 9223372036854775807) {ao : Option Addr} {n cap : Nat} {bs : List UInt8} (hb : Bs w ao n cap bs)
    {now : Int} (hn0 : 0 ≤ now) (hn1 : now < 18446744073709551616) {r : AOut × Int × AL} (hr : aFrame room life s fr bs now = r) :
    Calls Tryd.prog 18 #[.pointer (some ⟨m.sb, 0, none⟩), evPL fr, .slice ao n cap, .int .u64 now] w (FrameP w m room life r) := by
  have H := Lib.hid h
  have HB := Lib.hid hb
  have hnb := hb.1
  have hcap := hb.2.le
  have hcap2 := hb.2.capLe
  obtain ⟨ft, fn⟩ := fr
  have HF := Lib.hid hfr
  unfold evPL
  simp only
  by_cases h14 : bs.length < 14
  · have hx : r = (noOut, 2, s.A) := by rw [← hr]; unfold aFrame; rw [if_pos h14]
    subst hx
    have l1 : (n : Int) < 14 := by omega
    clear hr h hb hnb h14
    go_enter Tryd.func18, Tryd.ntmps18
    go_wp2_with fail
    have hz := heap_alloc_new (w.alloc (.cells #[.bool ft, .int .i64 fn] 34)) (.cells #[.slice none 0 0, .slice none 0 0, .bool false] 37)
    have hf := ((Fr.refl No w).alloc (.cells #[.bool ft, .int .i64 fn] 34)).alloc (.cells #[.slice none 0 0, .slice none 0 0, .bool false] 37)
    rw [show (w.alloc (.cells #[.bool ft, .int .i64 fn] 34)).heap.size = w.heap.size + 1 from by simp] at hz
    generalize World.alloc _ _ = wz at hz hf ⊢
    obtain ⟨s0, s1, s2⟩ := cells3 hz
    refine bodyPost_ret (v := .tuple #[.agg #[.slice none 0 0, .slice none 0 0, .bool false], .int .i64 2]) (by simp [results, Tryd.results18, go_sem, s0, s1, s2]) rfl ?_
    exact FrameP.none H.out hf
  by_cases h9 : 9000 < bs.length
  · have hx : r = (noOut, 7, s.A) := by rw [← hr]; unfold aFrame; rw [if_neg h14, if_pos h9]
    subst hx
    have l1 : ¬ (n : Int) < 14 := by omega
    have l2 : (9000 : Int) < (n : Int) := by omega
    clear hr h hb hnb h14 h9
    go_enter Tryd.func18, Tryd.ntmps18
    go_wp2_with fail
    have hz := heap_alloc_new (w.alloc (.cells #[.bool ft, .int .i64 fn] 34)) (.cells #[.slice none 0 0, .slice none 0 0, .bool false] 37)
    have hf := ((Fr.refl No w).alloc (.cells #[.bool ft, .int .i64 fn] 34)).alloc (.cells #[.slice none 0 0, .slice none 0 0, .bool false] 37)
    rw [show (w.alloc (.cells #[.bool ft, .int .i64 fn] 34)).heap.size = w.heap.size + 1 from by simp] at hz
    generalize World.alloc _ _ = wz at hz hf ⊢
    obtain ⟨s0, s1, s2⟩ := cells3 hz
    refine bodyPost_ret (v := .tuple #[.agg #[.slice none 0 0, .slice none 0 0, .bool false], .int .i64 7]) (by simp [results, Tryd.results18, go_sem, s0, s1, s2]) rfl ?_
    exact FrameP.none H.out hf
  have l1 : ¬ (n : Int) < 14 := by omega
  have l2 : ¬ (9000 : Int) < (n : Int) := by omega
  cases ao with
  | none => exfalso; have := hb.2.nocap rfl; omega
  | some a =>
    have hsp := bs_spot hb (by omega)
    obtain ⟨ab, aoff, asp⟩ := a
    simp only at hsp
    subst hsp
    have HC := Lib.hid (fun k (hk : k < bs.length) => bs_cells hb rfl k hk)
    have hlw : ab < w.heap.size := by have := lt_of_cell (HC.out 0 (by omega)); simpa using this
    have HL := Lib.hid (show 14 ≤ bs.length ∧ bs.length ≤ 9000 by omega)
    have HR := Lib.hid hr
    have h6 : ¬ cap = 6 := by omega
    have h66 : (6 : Int) ≤ (n : Int) := by omega
    clear hr h hb hnb h14 h9 hfr
    go_enter Tryd.func18, Tryd.ntmps18
    go_wp2_with fail
    obtain ⟨wz, hwz⟩ : ∃ wz, ((w.alloc (.cells #[.bool ft, .int .i64 fn] 34)).alloc (.cells #[.slice none 0 0, .slice none 0 0, .bool false] 37)) = wz := ⟨_, rfl⟩
    have FZ := Lib.hid (show Fr No w wz from by rw [← hwz]; exact ((Fr.refl No w).alloc (.cells #[.bool ft, .int .i64 fn] 34)).alloc (.cells #[.slice none 0 0, .slice none 0 0, .bool false] 37))
    have RO := Lib.hid (show wz.heap[w.heap.size + 1]? = some (.cells #[.slice none 0 0, .slice none 0 0, .bool false] 37 (0, 0)) from by
      have := heap_alloc_new (w.alloc (.cells #[.bool ft, .int .i64 fn] 34)) (.cells #[.slice none 0 0, .slice none 0 0, .bool false] 37)
      rw [← hwz]; simpa using this)
    have RF := Lib.hid (show wz.heap[w.heap.size]? = some (.cells #[.bool ft, .int .i64 fn] 34 (0, 0)) from by
      rw [← hwz]
      exact ((Fr.refl No _).alloc _).heap (heap_alloc_new w (.cells #[.bool ft, .int .i64 fn] 34)) (by simp [No]))
    have SZ : wz.heap.size = w.heap.size + 2 := by rw [← hwz]; simp
    rw [hwz]
    clear hwz
    have CC : ∀ k, k < 12 → wz.cell? ⟨ab, aoff + k, none⟩ = some (byteV (bs.getD k 0)) := fun k hk => FZ.out.cell (HC.out k (by have := HL.out; omega)) (by simp [No])
    obtain ⟨b0, e0⟩ : ∃ b, bs.getD 0 0 = b := ⟨_, rfl⟩
    obtain ⟨b1, e1⟩ : ∃ b, bs.getD 1 0 = b := ⟨_, rfl⟩
    obtain ⟨b2, e2⟩ : ∃ b, bs.getD 2 0 = b := ⟨_, rfl⟩
    obtain ⟨b3, e3⟩ : ∃ b, bs.getD 3 0 = b := ⟨_, rfl⟩
    obtain ⟨b4, e4⟩ : ∃ b, bs.getD 4 0 = b := ⟨_, rfl⟩
    obtain ⟨b5, e5⟩ : ∃ b, bs.getD 5 0 = b := ⟨_, rfl⟩
    obtain ⟨b6, e6⟩ : ∃ b, bs.getD 6 0 = b := ⟨_, rfl⟩
    obtain ⟨b7, e7⟩ : ∃ b, bs.getD 7 0 = b := ⟨_, rfl⟩
    obtain ⟨b8, e8⟩ : ∃ b, bs.getD 8 0 = b := ⟨_, rfl⟩
    obtain ⟨b9, e9⟩ : ∃ b, bs.getD 9 0 = b := ⟨_, rfl⟩
    obtain ⟨b10, e10⟩ : ∃ b, bs.getD 10 0 = b := ⟨_, rfl⟩
    obtain ⟨b11, e11⟩ : ∃ b, bs.getD 11 0 = b := ⟨_, rfl⟩
    have MT := Lib.hid (show macOf bs 0 = ⟨b0, b1, b2, b3, b4, b5⟩ from by unfold macOf; rw [← e0, ← e1, ← e2, ← e3, ← e4, ← e5])
    have MO := Lib.hid (show macOf bs 6 = ⟨b6, b7, b8, b9, b10, b11⟩ from by unfold macOf; rw [← e6, ← e7, ← e8, ← e9, ← e10, ← e11])
    have k0 := CC 0 (by omega)
    have k1 := CC 1 (by omega)
    have k2 := CC 2 (by omega)
    have k3 := CC 3 (by omega)
    have k4 := CC 4 (by omega)
    have k5 := CC 5 (by omega)
    have k6 := CC 6 (by omega)
    have k7 : wz.cell? ⟨ab, aoff + 6 + 1, none⟩ = some (byteV (bs.getD 7 0)) := CC 7 (by omega)
    have k8 : wz.cell? ⟨ab, aoff + 6 + 2, none⟩ = some (byteV (bs.getD 8 0)) := CC 8 (by omega)
    have k9 : wz.cell? ⟨ab, aoff + 6 + 3, none⟩ = some (byteV (bs.getD 9 0)) := CC 9 (by omega)
    have k10 : wz.cell? ⟨ab, aoff + 6 + 4, none⟩ = some (byteV (bs.getD 10 0)) := CC 10 (by omega)
    have k11 : wz.cell? ⟨ab, aoff + 6 + 5, none⟩ = some (byteV (bs.getD 11 0)) := CC 11 (by omega)
    rw [e0] at k0; rw [e1] at k1; rw [e2] at k2; rw [e3] at k3; rw [e4] at k4; rw [e5] at k5
    rw [e6] at k6; rw [e7] at k7; rw [e8] at k8; rw [e9] at k9; rw [e10] at k10; rw [e11] at k11
    unfold byteV at k0 k1 k2 k3 k4 k5 k6 k7 k8 k9 k10 k11
    simp only [Nat.add_zero] at k0
    clear CC e0 e1 e2 e3 e4 e5 e6 e7 e8 e9 e10 e11 HC
    have hzl : ab < wz.heap.size := by omega
    have a0 := fun o => al_cell k0 o
    have d0 := fun o o2 => al_cell (a0 o) o2
    have a1 := fun o => al_cell k1 o
    have d1 := fun o o2 => al_cell (a1 o) o2
    have a2 := fun o => al_cell k2 o
    have d2 := fun o o2 => al_cell (a2 o) o2
    have a3 := fun o => al_cell k3 o
    have d3 := fun o o2 => al_cell (a3 o) o2
    have a4 := fun o => al_cell k4 o
    have d4 := fun o o2 => al_cell (a4 o) o2
    have a5 := fun o => al_cell k5 o
    have d5 := fun o o2 => al_cell (a5 o) o2
    have a6 := fun o => al_cell k6 o
    have d6 := fun o o2 => al_cell (a6 o) o2
    have a7 := fun o => al_cell k7 o
    have d7 := fun o o2 => al_cell (a7 o) o2
    have a8 := fun o => al_cell k8 o
    have d8 := fun o o2 => al_cell (a8 o) o2
    have a9 := fun o => al_cell k9 o
    have d9 := fun o o2 => al_cell (a9 o) o2
    have a10 := fun o => al_cell k10 o
    have d10 := fun o o2 => al_cell (a10 o) o2
    have a11 := fun o => al_cell k11 o
    have d11 := fun o o2 => al_cell (a11 o) o2
    have h71 : 12 ≤ n := by omega
    have hA1 : ∀ w, (Instr.arrayAt 24 (.slice (some ⟨ab, aoff, none⟩) n cap)).run Tryd.prog w = .ok (.pointer (some ⟨ab, aoff, none⟩)) w := fun w => run_arrayAt w 24 _ 6 _ n cap Tryd.underlying24 (by omega)
    have hA2 : ∀ w, (Instr.arrayAt 24 (.slice (some ⟨ab, aoff + 6, none⟩) (n - 6) (cap - 6))).run Tryd.prog w = .ok (.pointer (some ⟨ab, aoff + 6, none⟩)) w := fun w => run_arrayAt w 24 _ 6 _ (n - 6) (cap - 6) Tryd.underlying24 (by omega)
    go_cut [10, 11] (fun s10 s11 wy => ∃ bt bo : Nat, s10 = .pointer (some ⟨bt, 0, none⟩) ∧ s11 = .pointer (some ⟨bo, 0, none⟩) ∧ (wy.heap[bt]? = some (.cells #[.int .u8 (b0.toNat : Int), .int .u8 (b1.toNat : Int), .int .u8 (b2.toNat : Int), .int .u8 (b3.toNat : Int), .int .u8 (b4.toNat : Int), .int .u8 (b5.toNat : Int)] 24 (0, 0)) ∧ w.heap.size ≤ bt ∧ bt < wy.heap.size) ∧ (wy.heap[bo]? = some (.cells #[.int .u8 (b6.toNat : Int), .int .u8 (b7.toNat : Int), .int .u8 (b8.toNat : Int), .int .u8 (b9.toNat : Int), .int .u8 (b10.toNat : Int), .int .u8 (b11.toNat : Int)] 24 (0, 0)) ∧ w.heap.size ≤ bo ∧ bo < wy.heap.size) ∧ Fr No wz wy)
    case first =>
      go_region
      all_goals
        try go_wp2_with fail
        go_meet
        first
        | (have rr := two_new SZ #[.int .u8 (b0.toNat : Int), .int .u8 (b1.toNat : Int), .int .u8 (b2.toNat : Int), .int .u8 (b3.toNat : Int), .int .u8 (b4.toNat : Int), .int .u8 (b5.toNat : Int)] #[.int .u8 (b6.toNat : Int), .int .u8 (b7.toNat : Int), .int .u8 (b8.toNat : Int), .int .u8 (b9.toNat : Int), .int .u8 (b10.toNat : Int), .int .u8 (b11.toNat : Int)] 24 24
           have FY1 := (((Fr.refl No wz).alloc (.cells #[.int .u8 (b0.toNat : Int), .int .u8 (b1.toNat : Int), .int .u8 (b2.toNat : Int), .int .u8 (b3.toNat : Int), .int .u8 (b4.toNat : Int), .int .u8 (b5.toNat : Int)] 24)).alloc (.cells #[.int .u8 (b6.toNat : Int), .int .u8 (b7.toNat : Int), .int .u8 (b8.toNat : Int), .int .u8 (b9.toNat : Int), .int .u8 (b10.toNat : Int), .int .u8 (b11.toNat : Int)] 24)).drew
           exact ⟨_, _, rfl, rfl, ⟨rr.1, by omega, lt_of_heap rr.1⟩, ⟨rr.2, by omega, lt_of_heap rr.2⟩, FY1⟩)
        | (have rr := two_new SZ #[.int .u8 (b6.toNat : Int), .int .u8 (b7.toNat : Int), .int .u8 (b8.toNat : Int), .int .u8 (b9.toNat : Int), .int .u8 (b10.toNat : Int), .int .u8 (b11.toNat : Int)] #[.int .u8 (b0.toNat : Int), .int .u8 (b1.toNat : Int), .int .u8 (b2.toNat : Int), .int .u8 (b3.toNat : Int), .int .u8 (b4.toNat : Int), .int .u8 (b5.toNat : Int)] 24 24
           have FY1 := (((Fr.refl No wz).alloc (.cells #[.int .u8 (b6.toNat : Int), .int .u8 (b7.toNat : Int), .int .u8 (b8.toNat : Int), .int .u8 (b9.toNat : Int), .int .u8 (b10.toNat : Int), .int .u8 (b11.toNat : Int)] 24)).alloc (.cells #[.int .u8 (b0.toNat : Int), .int .u8 (b1.toNat : Int), .int .u8 (b2.toNat : Int), .int .u8 (b3.toNat : Int), .int .u8 (b4.toNat : Int), .int .u8 (b5.toNat : Int)] 24)).drew
           exact ⟨_, _, rfl, rfl, ⟨rr.2, by omega, lt_of_heap rr.2⟩, ⟨rr.1, by omega, lt_of_heap rr.1⟩, FY1⟩)
    case rest =>
      obtain ⟨bt, bo, rfl, rfl, hbt, hbo, FY1⟩ := hcut
      have Hbt := Lib.hid hbt
      have Hbo := Lib.hid hbo
      have FW := Lib.hid (FZ.out.trans FY1)
      have R8 := Lib.hid (FY1.heap RO.out (fun h => h))
      have R5 := Lib.hid (FY1.heap RF.out (fun h => h))
      clear hbt hbo FY1 k0 a0 d0 k1 a1 d1 k2 a2 d2 k3 a3 d3 k4 a4 d4 k5 a5 d5 k6 a6 d6 k7 a7 d7 k8 a8 d8 k9 a9 d9 k10 a10 d10 k11 a11 d11 hA1 hA2 hzl RO RF FZ SZ
      obtain ⟨o0, o1, o2, o3, o4, o5⟩ := cells6 Hbo.out.1
      go_wp2_with fail
      refine (fbGroup_any ⟨b6, b7, b8, b9, b10, b11⟩ _).mono ?_
      rintro e w1 ⟨rfl, f1⟩
      have R8 := Lib.hid (f1.heap R8.out (fun h => h))
      have R5 := Lib.hid (f1.heap R5.out (fun h => h))
      have FW := Lib.hid (FW.out.trans f1)
      have Hbo := Lib.hid (show _ ∧ _ ∧ _ from ⟨f1.heap Hbo.out.1 (fun h => h), Hbo.out.2.1, Nat.lt_of_lt_of_le Hbo.out.2.2 f1.size⟩)
      have Hbt := Lib.hid (show _ ∧ _ ∧ _ from ⟨f1.heap Hbt.out.1 (fun h => h), Hbt.out.2.1, Nat.lt_of_lt_of_le Hbt.out.2.2 f1.size⟩)
      clear f1 o0 o1 o2 o3 o4 o5
      cases hg1 : grpM ⟨b6, b7, b8, b9, b10, b11⟩ with
      | true =>
        have hx : r = (noOut, 3, s.A) := by rw [← HR.out]; unfold aFrame; rw [if_neg (by have := HL.out; omega), if_neg (by have := HL.out; omega), MO.out, if_pos hg1]
        subst hx
        obtain ⟨s0, s1, s2⟩ := cells3 R8.out
        obtain ⟨z0, z1, z2⟩ := free3 R8.out
        go_wp2_with fail
        have hz := set3 R8.out (.slice none 0 0) (.slice none 0 0) (.bool false)
        have fz := fr3 FW.out (b := w.heap.size + 1) (by omega) (.slice none 0 0) (.slice none 0 0) (.bool false)
        clear s0 s1 s2
        generalize World.setCell _ _ _ = wq at hz fz ⊢
        obtain ⟨s0, s1, s2⟩ := cells3 hz
        refine bodyPost_ret (v := .tuple #[.agg #[.slice none 0 0, .slice none 0 0, .bool false], .int .i64 3]) (by simp [results, Tryd.results18, go_sem, s0, s1, s2]) rfl ?_
        exact FrameP.none H.out fz
      | false =>
        obtain ⟨u0, u1, u2⟩ := cells3 (FW.out.heap H.out.box (fun h => h))
        obtain ⟨o0, o1, o2, o3, o4, o5⟩ := cells6 Hbo.out.1
        obtain ⟨v0, v1⟩ := cells2 R5.out
        have H1 := Lib.hid (SgAt.fr H.out FW.out (fun k _ h => h))
        obtain ⟨⟨rb, rc, A2⟩, hA⟩ : ∃ x, alearn room s.A ⟨b6, b7, b8, b9, b10, b11⟩ ⟨ft, fn⟩ now = x := ⟨_, rfl⟩
        have HA := Lib.hid hA
        clear hA
        have nfs : Hid (∀ k, w.heap.size ≤ k → ¬ FS m.mb m.L k) := Lib.hid (fun k hk h => by have := H.out.fsLt h; omega)
        have SF : Hid (∀ w', Fr (FS m.mb m.L) w1 w' → (w'.cell? ⟨m.sb, 0, none⟩ = some (.pointer (some ⟨m.tb, 0, none⟩)) ∧ (w'.cell? ⟨bo, 0, none⟩ = some (.int .u8 (b6.toNat : Int)) ∧ w'.cell? ⟨bo, 1, none⟩ = some (.int .u8 (b7.toNat : Int)) ∧ w'.cell? ⟨bo, 2, none⟩ = some (.int .u8 (b8.toNat : Int)) ∧ w'.cell? ⟨bo, 3, none⟩ = some (.int .u8 (b9.toNat : Int)) ∧ w'.cell? ⟨bo, 4, none⟩ = some (.int .u8 (b10.toNat : Int)) ∧ w'.cell? ⟨bo, 5, none⟩ = some (.int .u8 (b11.toNat : Int))) ∧ w'.cell? ⟨w.heap.size, 0, none⟩ = some (.bool ft) ∧ w'.cell? ⟨w.heap.size, 1, none⟩ = some (.int .i64 fn))) := Lib.hid (by
          intro w' f
          have h1 := cells3 (f.heap H1.out.box H.out.fsSb)
          have h2 := cells6 (f.heap Hbo.out.1 (nfs.out _ Hbo.out.2.1))
          have h3 := cells2 (f.heap R5.out (nfs.out _ (Nat.le_refl _)))
          exact ⟨h1.1, h2, h3⟩)
        go_wp2_with fail
        go_region_held3 (fun w' => (w'.cell? ⟨m.sb, 0, none⟩ = some (.pointer (some ⟨m.tb, 0, none⟩)) ∧ (w'.cell? ⟨bo, 0, none⟩ = some (.int .u8 (b6.toNat : Int)) ∧ w'.cell? ⟨bo, 1, none⟩ = some (.int .u8 (b7.toNat : Int)) ∧ w'.cell? ⟨bo, 2, none⟩ = some (.int .u8 (b8.toNat : Int)) ∧ w'.cell? ⟨bo, 3, none⟩ = some (.int .u8 (b9.toNat : Int)) ∧ w'.cell? ⟨bo, 4, none⟩ = some (.int .u8 (b10.toNat : Int)) ∧ w'.cell? ⟨bo, 5, none⟩ = some (.int .u8 (b11.toNat : Int))) ∧ w'.cell? ⟨w.heap.size, 0, none⟩ = some (.bool ft) ∧ w'.cell? ⟨w.heap.size, 1, none⟩ = some (.int .i64 fn)))
          (first | exact SF.out _ (Fr.refl _ _).drew | exact SF.out _ ((Fr.refl _ _).drew.trans f2))
          (first | (go_at_call 27; refine (fbLearn_at (H1.out.fd.no ((Fr.refl No _).drew)) H1.out.ab ⟨b6, b7, b8, b9, b10, b11⟩ ⟨ft, fn⟩ hn0 hn1 HF.out HA.out).mono ?_; rintro e w2 ⟨rfl, L2, fd2, ab2, nb2, f2⟩))
        have f12 : Fr (FS m.mb m.L) w1 w2 := (Fr.refl _ _).drew.trans f2
        have H2 := Lib.hid (SgAt.turn H1.out fd2 ab2 f12)
        have R8 := Lib.hid (f12.heap R8.out (nfs.out _ (by omega)))
        have R5 := Lib.hid (f12.heap R5.out (nfs.out _ (by omega)))
        have Hbt := Lib.hid (show _ ∧ _ ∧ _ from ⟨f12.heap Hbt.out.1 (nfs.out _ Hbt.out.2.1), Hbt.out.2.1, Nat.lt_of_lt_of_le Hbt.out.2.2 f12.size⟩)
        have FW2 := Lib.hid (FW.out.of_no.trans f12)
        have HNB := Lib.hid (show Nb w m.L L2 from by
          intro p hp
          rcases nb2 p hp with h | h
          · exact .inl h
          · exact .inr (Nat.le_trans FW.out.size h))
        clear f12 f2 nb2 SF u0 u1 u2 o0 o1 o2 o3 o4 o5 v0 v1
        obtain ⟨q, hq⟩ : ∃ q, afind life A2 ⟨b0, b1, b2, b3, b4, b5⟩ now = q := ⟨_, rfl⟩
        obtain ⟨⟨qt, qn⟩, hqd⟩ : ∃ x, q.getD ⟨false, 0⟩ = x := ⟨_, rfl⟩
        obtain ⟨qf, hqf⟩ : ∃ x, q.isSome = x := ⟨_, rfl⟩
        have HQ : Hid (∀ W, Fr No w2 W → Calls Tryd.prog 12 #[.pointer (some ⟨m.tb, 0, none⟩), .agg #[.int .u8 (b0.toNat : Int), .int .u8 (b1.toNat : Int), .int .u8 (b2.toNat : Int), .int .u8 (b3.toNat : Int), .int .u8 (b4.toNat : Int), .int .u8 (b5.toNat : Int)], .int .u64 now] W fun e w' => e = .returned (.tuple #[.agg #[.bool qt, .int .i64 qn], .bool qf]) ∧ Fr No W w') := Lib.hid (fun W hW => (fbFind_at (fd2.no hW) ab2 ⟨b0, b1, b2, b3, b4, b5⟩ hn0 hn1 hq).mono (by
          rintro e w' ⟨he, hf⟩
          rw [hqd, hqf] at he
          exact ⟨he, hf⟩))
        have HQD := Lib.hid hqd
        have HQF := Lib.hid hqf
        clear hqd hqf
        have HQ2 := Lib.hid hq
        clear hq fd2 ab2
        have S9 : Hid (∀ w', Fr No w2 w' → (w'.cell? ⟨m.sb, 0, none⟩ = some (.pointer (some ⟨m.tb, 0, none⟩)) ∧ w'.cell? ⟨bt, 0, none⟩ = some (.int .u8 (b0.toNat : Int)) ∧ w'.cell? ⟨bt, 1, none⟩ = some (.int .u8 (b1.toNat : Int)) ∧ w'.cell? ⟨bt, 2, none⟩ = some (.int .u8 (b2.toNat : Int)) ∧ w'.cell? ⟨bt, 3, none⟩ = some (.int .u8 (b3.toNat : Int)) ∧ w'.cell? ⟨bt, 4, none⟩ = some (.int .u8 (b4.toNat : Int)) ∧ w'.cell? ⟨bt, 5, none⟩ = some (.int .u8 (b5.toNat : Int)))) := Lib.hid (by
          intro w' f
          have h1 := cells3 (f.heap H2.out.box (fun h => h))
          have h2 := cells6 (f.heap Hbt.out.1 (fun h => h))
          exact ⟨h1.1, h2⟩)
        go_upto_region 9 with fail
        go_cut [12, 13] (fun s12 s13 wx => ∃ xb : Nat, s12 = .pointer (some ⟨xb, 0, none⟩) ∧ s13 = .bool qf ∧ wx.heap[xb]? = some (.cells #[.bool qt, .int .i64 qn] 34 (0, 0)) ∧ Fr No w2 wx ∧ w.heap.size ≤ xb)
        case first =>
          go_region_held3 (fun w' => (w'.cell? ⟨m.sb, 0, none⟩ = some (.pointer (some ⟨m.tb, 0, none⟩)) ∧ w'.cell? ⟨bt, 0, none⟩ = some (.int .u8 (b0.toNat : Int)) ∧ w'.cell? ⟨bt, 1, none⟩ = some (.int .u8 (b1.toNat : Int)) ∧ w'.cell? ⟨bt, 2, none⟩ = some (.int .u8 (b2.toNat : Int)) ∧ w'.cell? ⟨bt, 3, none⟩ = some (.int .u8 (b3.toNat : Int)) ∧ w'.cell? ⟨bt, 4, none⟩ = some (.int .u8 (b4.toNat : Int)) ∧ w'.cell? ⟨bt, 5, none⟩ = some (.int .u8 (b5.toNat : Int))))
            (first | exact S9.out _ (Fr.refl _ _).drew | exact S9.out _ ((Fr.refl _ _).alloc _).drew | exact S9.out _ ((Fr.refl _ _).drew.trans f3) | exact S9.out _ ((((Fr.refl _ _).alloc _).drew).trans f3) | exact S9.out _ (((Fr.refl _ _).drew.trans f3).alloc _) | exact S9.out _ (aft2a (w0 := w) FW2.out.size f3 _ _).2.1 | exact S9.out _ (aft2b (w0 := w) FW2.out.size f3 _ _).2.1 | go_keep)
            (first | (go_at_call 12; refine (HQ.out _ (by first | exact (Fr.refl No _).drew | exact ((Fr.refl No _).alloc _).drew)).mono ?_; rintro e w3 ⟨rfl, f3⟩; first | (have bx := box2 f3; obtain ⟨bx0, bx1, bx2, bx3⟩ := bx) | skip))
          all_goals
            try go_wp2_with fail
            go_meet
            first
            | (have h9 := aft2a (w0 := w) FW2.out.size f3 (.bool qt) (.int .i64 qn)
               exact ⟨_, rfl, rfl, h9.1, h9.2.1, h9.2.2⟩)
            | (have h9 := aft2b (w0 := w) FW2.out.size f3 (.bool qt) (.int .i64 qn) (t := 34)
               exact ⟨_, rfl, rfl, h9.1, h9.2.1, h9.2.2⟩)
        case rest =>
          obtain ⟨xb, rfl, rfl, rx, fx, lx⟩ := hcut
          have RX := Lib.hid rx
          have H3 := Lib.hid (H2.out.fr fx (fun _ _ h => h))
          have R8 := Lib.hid (fx.heap R8.out (fun h => h))
          have R5 := Lib.hid (fx.heap R5.out (fun h => h))
          have FW3 := Lib.hid (FW2.out.then_no fx)
          obtain ⟨t0, t1, t2, t3, t4, t5⟩ := cells6 (fx.heap Hbt.out.1 (fun h => h))
          have HRR : Hid (r = (aGoes s ⟨ft, fn⟩ (if grpM ⟨b0, b1, b2, b3, b4, b5⟩ = true then none else q), 0, A2)) := Lib.hid (by rw [← HR.out]; unfold aFrame; rw [if_neg (by have := HL.out; omega), if_neg (by have := HL.out; omega), MO.out, if_neg (by simp [hg1]), MT.out, HA.out, HQ2.out])
          clear rx fx lx S9
          obtain ⟨gt, hgt⟩ : ∃ g, grpM ⟨b0, b1, b2, b3, b4, b5⟩ = g := ⟨_, rfl⟩
          have HGT := Lib.hid hgt
          clear hgt
          go_upto_region 10 with fail
          go_cut [53] (fun s53 wd => s53 = .bool (gt || !qf) ∧ Fr No wc wd)
          case first =>
            go_wp2_with fail
            refine (fbGroup_any ⟨b0, b1, b2, b3, b4, b5⟩ _).mono ?_
            rintro e w4 ⟨rfl, f4⟩
            rw [HGT.out]
            cases gt <;> cases qf <;> (go_wp2_with fail; go_meet; exact ⟨rfl, f4⟩)
          case rest =>
            obtain ⟨rfl, f4⟩ := hcut
            have R8 := Lib.hid (f4.heap R8.out (fun h => h))
            have R5 := Lib.hid (f4.heap R5.out (fun h => h))
            have RX := Lib.hid (f4.heap RX.out (fun h => h))
            have FW4 := Lib.hid (FW3.out.then_no f4)
            have H4 := Lib.hid (H3.out.fr f4 (fun _ _ h => h))
            clear f4 t0 t1 t2 t3 t4 t5
            obtain ⟨u0, u1, u2⟩ := cells3 H4.out.box
            cases hfl : (gt || !qf) with
            | true =>
              have hx : r = (⟨if ft = true then s.ps else delI s.ps fn, if ft = true then [] else s.qs, true⟩, 0, A2) := by
                rw [HRR.out]
                have hq0 : (if grpM ⟨b0, b1, b2, b3, b4, b5⟩ = true then none else q) = none := by
                  rw [HGT.out]
                  cases gt with
                  | true => rfl
                  | false =>
                    cases qf with
                    | true => cases hfl
                    | false => have := HQF.out; cases q with | none => rfl | some _ => cases this
                rw [hq0]; rfl
              cases ft with
              | true =>
                have HX := Lib.hid (show r = (⟨s.ps, [], true⟩, 0, A2) from hx)
                clear hx
                go_wp2_with fail
                refine (cloneI_any H4.out.p.sl (by rw [H4.out.p.1]; show s.ps.length ≤ _; omega)).mono ?_
                rintro e w5 ⟨po, pc, rfl, c5, f5, g5⟩
                have lt8 := lt_of_heap R8.out
                have R8 := Lib.hid (f5.heap R8.out (fun h => h))
                obtain ⟨v0, v1⟩ := cells2 (f5.heap R5.out (fun h => h))
                obtain ⟨s0, s1, s2⟩ := cells3 R8.out
                obtain ⟨z0, z1, z2⟩ := free3 R8.out
                have hr8 := lt_of_heap R8.out
                have hr5 : w.heap.size < w5.heap.size := by omega
                clear u0 u1 u2
                go_wp2_with fail
                have fin := FrameP.no (frame_done (m := m) (w := w) (L2 := L2) (H4.out.fd.no f5) H4.out.ab HNB.out (FW4.out.then_no f5) R8.out c5 (fun a h => by have := g5 a h; omega) (OI.nil _) (fun a h => by cases h) HX.out (.slice po m.pn pc) (.slice none 0 0) (.bool true)) ((Fr.refl No _).alloc (.cells #[.slice po m.pn pc, .slice none 0 0, .bool true] 37))
                have hz := ((Fr.refl No _).alloc (.cells #[.slice po m.pn pc, .slice none 0 0, .bool true] 37)).heap (set3 R8.out (.slice po m.pn pc) (.slice none 0 0) (.bool true)) (fun h => h)
                clear s0 s1 s2 z0 z1 z2 v0 v1
                generalize World.alloc _ _ = wq at hz fin ⊢
                obtain ⟨s0, s1, s2⟩ := cells3 hz
                refine bodyPost_ret (v := .tuple #[.agg #[.slice po m.pn pc, .slice none 0 0, .bool true], .int .i64 0]) (by simp [results, Tryd.results18, go_sem, s0, s1, s2]) rfl ?_
                exact fin
              | false =>
                have HX := Lib.hid (show r = (⟨delI s.ps fn, s.qs, true⟩, 0, A2) from hx)
                clear hx
                go_wp2_with fail
                refine (cloneI_any H4.out.p.sl (by rw [H4.out.p.1]; show s.ps.length ≤ _; omega)).mono ?_
                rintro e w5 ⟨po, pc, rfl, c5, f5, g5⟩
                have lt8 := lt_of_heap R8.out
                have hr5 : w.heap.size < w5.heap.size := by have := f5.size; omega
                have l14 : w.heap.size + 2 ≤ w5.heap.size := by have := f5.size; omega
                have r14 := heap_alloc_new w5 (.cells #[.slice po m.pn pc, .slice none 0 0, .bool true] 37)
                have B14 := f5.alloc (.cells #[.slice po m.pn pc, .slice none 0 0, .bool true] 37)
                obtain ⟨v0, v1⟩ := cells2 (f5.heap R5.out (fun h => h))
                clear u0 u1 u2
                go_wp2_with fail
                generalize World.alloc _ _ = w6 at r14 B14 ⊢
                generalize w5.heap.size = x14 at r14 l14 ⊢
                have HL14 := Lib.hid l14
                have R14 := Lib.hid r14
                have H6 := Lib.hid (H4.out.fr B14 (fun _ _ h => h))
                have R8 := Lib.hid (B14.heap R8.out (fun h => h))
                have R5 := Lib.hid (B14.heap R5.out (fun h => h))
                have FW6 := Lib.hid (FW4.out.then_no B14)
                have nsb : m.sb ≠ x14 := by have := lt_of_heap H.out.box; omega
                have S13 : Hid (∀ w', Fr (Is x14) w6 w' → (w'.cell? ⟨m.sb, 1, none⟩ = some (.slice m.po m.pn m.pc) ∧ w'.cell? ⟨m.sb, 2, none⟩ = some (.slice m.qo m.qn m.qc) ∧ w'.cell? ⟨w.heap.size, 1, none⟩ = some (.int .i64 fn))) := Lib.hid (by
                  intro w' f
                  have h1 := cells3 (f.heap H6.out.box (fun h => nsb h))
                  have h2 := cells2 (f.heap R5.out (fun h => by simp only [Is] at h; omega))
                  exact ⟨h1.2.1, h1.2.2, h2.2⟩)
                have HW1 : Hid (∀ W, Fr (Is x14) w6 W → Calls Tryd.prog 20 #[.slice m.po m.pn m.pc, .int .i64 fn] W (WithP W (delI s.ps fn))) := Lib.hid (fun W hW => bgWithout_any (H6.out.p.fr hW (fun a ha e => by
                  have := H.out.lt (.inr (.inr (.inr (.inr (.inl ⟨a, ha, rfl⟩))))); simp only [Is] at e; omega)) (by rw [H6.out.p.1]; show s.ps.length ≤ _; omega) fn)
                have HC1 : Hid (∀ W, Fr (Is x14) w6 W → Calls Tryd.prog 24 #[.slice m.qo m.qn m.qc] W (ClonedI W m.qn s.qs)) := Lib.hid (fun W hW => cloneI_any (H6.out.q.fr hW (fun a ha e => by
                  have := H.out.lt (.inr (.inr (.inr (.inr (.inr ⟨a, ha, rfl⟩))))); simp only [Is] at e; omega)).sl (by rw [H6.out.q.1]; show s.qs.length ≤ _; omega))
                clear B14 v0 v1 f5 c5 g5 hr5 r14
                go_region_held3 (fun w' => w'.cell? ⟨m.sb, 1, none⟩ = some (.slice m.po m.pn m.pc) ∧ w'.cell? ⟨m.sb, 2, none⟩ = some (.slice m.qo m.qn m.qc) ∧ w'.cell? ⟨w.heap.size, 1, none⟩ = some (.int .i64 fn))
                  (first | exact S13.out _ (Fr.refl _ _).drew | exact S13.out _ F7 | exact S13.out _ F8 | exact S13.out _ (st14 F8 _ _) | exact S13.out _ (st14 (st14 F8 _ _) _ _) | exact S13.out _ (st14 F7 _ _) | go_keep)
                  (first
                    | (go_at_call 20; refine (HW1.out _ (Fr.refl _ _).drew).mono ?_; rintro e w7 ⟨p2, pc2, rfl, c7, f7, g7⟩; have F7 := (Fr.refl (Is x14) w6).drew.then_no f7; have R7 := f7.heap (k := x14) R14.out (fun h => h); have y7 := cells3 R7; obtain ⟨y0, y1, y2⟩ := y7; have i7 := free3 R7; obtain ⟨i0, i1, i2⟩ := i7)
                    | (go_at_call 24; refine (HC1.out _ (by first | exact F7 | exact F7.drew | exact st14 F7 _ _)).mono ?_; rintro e w8 ⟨q2, qc2, rfl, c8, f8, g8⟩; have F8 : Fr (Is x14) w6 w8 := (by first | exact F7.then_no f8 | exact (st14 F7 _ _).then_no f8); (first | (have R78 := f8.heap (k := x14) R7 (fun h => h)) | (have R78 := f8.heap (k := x14) (set_row R7 0 _) (fun h => h); simp at R78)); have y8 := cells3 R78; obtain ⟨y80, y81, y82⟩ := y8; have i8 := free3 R78; obtain ⟨i80, i81, i82⟩ := i8))
                have R14b := set_row (set_row R78 0 (.slice p2 (delI s.ps fn).length pc2)) 1 (.slice q2 m.qn qc2)
                have F9 := st14 (st14 F8 0 (.slice p2 (delI s.ps fn).length pc2)) 1 (.slice q2 m.qn qc2)
                have e9 := (Fr.refl (Is x14) w8).setCell (p := ⟨x14, 0, none⟩) (.inl (show x14 = x14 from rfl)) (.slice p2 (delI s.ps fn).length pc2)
                have E9 := e9.setCell (p := ⟨x14, 1, none⟩) (.inl (show x14 = x14 from rfl)) (.slice q2 m.qn qc2)
                simp only [List.setIfInBounds_toArray, List.set_cons_zero, List.set_cons_succ] at R14b
                clear e9 y80 y81 y82 i80 i81 i82 y0 y1 y2 i0 i1 i2
                generalize World.setCell _ _ _ = w9 at R14b F9 E9 ⊢
                have s6 : w6.heap.size ≤ w7.heap.size := F7.size
                have x6 : x14 < w6.heap.size := lt_of_heap R14.out
                have x8 : w7.heap.size ≤ w8.heap.size := f8.size
                have c7' := (c7.no f8).fr E9 (fun a h e => by have := g7 a h; simp only [Is, World.size_drew] at e this; omega)
                have c8' := c8.fr E9 (fun a h e => by have := g8 a h; simp only [Is] at e; omega)
                have R8 := Lib.hid (F9.heap R8.out (fun h => by simp only [Is] at h; omega))
                have fd9 := H6.out.fd.bout R14.out F9
                have FW9 : Fr (FS m.mb m.L) w w9 := FW6.out.then F9 (fun i hi h => by simp only [Is] at h; omega)
                obtain ⟨s0, s1, s2⟩ := cells3 R8.out
                obtain ⟨z0, z1, z2⟩ := free3 R8.out
                obtain ⟨v0, v1, v2⟩ := cells3 R14b
                go_wp2_with fail
                have fin := frame_done (m := m) (w := w) (L2 := L2) fd9 H6.out.ab HNB.out FW9 R8.out c7' (fun a h => by have := g7 a h; simp only [World.size_drew] at this; omega) c8' (fun a h => by have := g8 a h; omega) HX.out (.slice p2 (delI s.ps fn).length pc2) (.slice q2 m.qn qc2) (.bool true)
                have hz := set3 R8.out (.slice p2 (delI s.ps fn).length pc2) (.slice q2 m.qn qc2) (.bool true)
                clear s0 s1 s2 z0 z1 z2 v0 v1 v2
                generalize World.setCell _ _ _ = wq at hz fin ⊢
                obtain ⟨s0, s1, s2⟩ := cells3 hz
                refine bodyPost_ret (v := .tuple #[.agg #[.slice p2 (delI s.ps fn).length pc2, .slice q2 m.qn qc2, .bool true], .int .i64 0]) (by simp [results, Tryd.results18, go_sem, s0, s1, s2]) rfl ?_
                exact fin
            | false =>
              have hg0 : gt = false := by cases gt with | true => cases hfl | false => rfl
              have hq1 : qf = true := by subst hg0; cases qf with | true => rfl | false => cases hfl
              subst hg0; subst hq1
              have hqs : q = some ⟨qt, qn⟩ := by have h1 := HQF.out; have h2 := HQD.out; cases q with | none => cases h1 | some x => exact congrArg some h2
              have HX := Lib.hid (show r = (if (⟨qt, qn⟩ : Pl) = ⟨ft, fn⟩ ∨ (qt = true ∧ ft = true) then noOut else if qt = true then ⟨[], [qn], false⟩ else ⟨[qn], [], false⟩, 0, A2) from by
                rw [HRR.out, if_neg (by rw [HGT.out]; simp), hqs]; rfl)
              have hE := fun W => eqPl ⟨qt, qn⟩ ⟨ft, fn⟩ W
              simp only [evPL] at hE
              obtain ⟨v0, v1⟩ := cells2 R5.out
              obtain ⟨x0, x1⟩ := cells2 RX.out
              obtain ⟨s0, s1, s2⟩ := cells3 R8.out
              obtain ⟨z0, z1, z2⟩ := free3 R8.out
              have lt8 := lt_of_heap R8.out
              have ltx := lt_of_heap RX.out
              have lt5 := lt_of_heap R5.out
              clear u0 u1 u2 hqs
              by_cases heq : (⟨qt, qn⟩ : Pl) = ⟨ft, fn⟩
              · have HY := Lib.hid (show r = (noOut, 0, A2) from by rw [HX.out, if_pos (.inl heq)])
                simp only [decide_eq_true heq] at hE
                clear heq
                go_wp2_with fail
                have fin := frame_done (m := m) (w := w) (L2 := L2) H4.out.fd H4.out.ab HNB.out FW4.out R8.out (OI.nil _) (fun a h => by cases h) (OI.nil _) (fun a h => by cases h) (fl := false) (c := 0) HY.out (.slice none 0 0) (.slice none 0 0) (.bool false)
                have hz := set3 R8.out (.slice none 0 0) (.slice none 0 0) (.bool false)
                clear s0 s1 s2 z0 z1 z2 v0 v1 x0 x1 lt8 ltx lt5
                generalize World.setCell _ _ _ = wq at hz fin ⊢
                obtain ⟨s0, s1, s2⟩ := cells3 hz
                refine bodyPost_ret (v := .tuple #[.agg #[.slice none 0 0, .slice none 0 0, .bool false], .int .i64 0]) (by simp [results, Tryd.results18, go_sem, s0, s1, s2]) rfl ?_
                exact fin
              · simp only [decide_eq_false heq] at hE
                have HE := Lib.hid heq
                clear heq
                cases qt with
                | true =>
                  cases ft with
                  | true =>
                    have HY := Lib.hid (show r = (noOut, 0, A2) from by rw [HX.out, if_pos (.inr ⟨rfl, rfl⟩)])
                    go_wp2_with fail
                    have fin := frame_done (m := m) (w := w) (L2 := L2) H4.out.fd H4.out.ab HNB.out FW4.out R8.out (OI.nil _) (fun a h => by cases h) (OI.nil _) (fun a h => by cases h) (fl := false) (c := 0) HY.out (.slice none 0 0) (.slice none 0 0) (.bool false)
                    have hz := set3 R8.out (.slice none 0 0) (.slice none 0 0) (.bool false)
                    clear s0 s1 s2 z0 z1 z2 v0 v1 x0 x1 lt8 ltx lt5
                    generalize World.setCell _ _ _ = wq at hz fin ⊢
                    obtain ⟨s0, s1, s2⟩ := cells3 hz
                    refine bodyPost_ret (v := .tuple #[.agg #[.slice none 0 0, .slice none 0 0, .bool false], .int .i64 0]) (by simp [results, Tryd.results18, go_sem, s0, s1, s2]) rfl ?_
                    exact fin
                  | false =>
                    have HY := Lib.hid (show r = (⟨[], [qn], false⟩, 0, A2) from by rw [HX.out, if_neg (by rintro (h | h); exact HE.out h; exact Bool.noConfusion h.2)]; rfl)
                    go_wp2_with fail
                    have fin := (frame_one (m := m) (w := w) (L2 := L2) H4.out.fd H4.out.ab HNB.out FW4.out R8.out qn (.slice none 0 0) (.slice (some ⟨wc.heap.size, 0, none⟩) 1 1) (.bool false)).2 HY.out
                    have hz := ((Fr.refl No _).alloc (.cells #[.int .i64 qn] 3)).heap (set3 R8.out (.slice none 0 0) (.slice (some ⟨wc.heap.size, 0, none⟩) 1 1) (.bool false)) (fun h => h)
                    clear s0 s1 s2 z0 z1 z2 v0 v1 x0 x1 lt8 ltx lt5
                    generalize World.alloc _ _ = wq at hz fin ⊢
                    obtain ⟨s0, s1, s2⟩ := cells3 hz
                    refine bodyPost_ret (v := .tuple #[.agg #[.slice none 0 0, .slice (some ⟨wc.heap.size, 0, none⟩) 1 1, .bool false], .int .i64 0]) (by simp [results, Tryd.results18, go_sem, s0, s1, s2]) rfl ?_
                    exact fin
                | false =>
                  have HY := Lib.hid (show r = (⟨[qn], [], false⟩, 0, A2) from by rw [HX.out, if_neg (by rintro (h | h); exact HE.out h; exact Bool.noConfusion h.1)]; rfl)
                  go_wp2_with fail
                  have fin := (frame_one (m := m) (w := w) (L2 := L2) H4.out.fd H4.out.ab HNB.out FW4.out R8.out qn (.slice (some ⟨wc.heap.size, 0, none⟩) 1 1) (.slice none 0 0) (.bool false)).1 HY.out
                  have hz := ((Fr.refl No _).alloc (.cells #[.int .i64 qn] 3)).heap (set3 R8.out (.slice (some ⟨wc.heap.size, 0, none⟩) 1 1) (.slice none 0 0) (.bool false)) (fun h => h)
                  clear s0 s1 s2 z0 z1 z2 v0 v1 x0 x1 lt8 ltx lt5
                  generalize World.alloc _ _ = wq at hz fin ⊢
                  obtain ⟨s0, s1, s2⟩ := cells3 hz
                  refine bodyPost_ret (v := .tuple #[.agg #[.slice (some ⟨wc.heap.size, 0, none⟩) 1 1, .slice none 0 0, .bool false], .int .i64 0]) (by simp [results, Tryd.results18, go_sem, s0, s1, s2]) rfl ?_
                  exact fin
end Go.Proofs.YticebdoiahadoaaDoor