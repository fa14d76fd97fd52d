/- fdb and the reference side by side: the state, and each call. -/
import Derived.Test.YtgmaelndhmnjiaaDoorRbR
import Derived.Test.YtgmaelndhmnjiaaDoorFd26
namespace Go.Proofs.YtgmaelndhmnjiaaDoor
open Go.RowKit
set_option linter.unusedVariables false
set_option linter.unusedSimpArgs false

def isBt : Obj → Bool
  | .map _ _ => true
  | .cells _ t _ => t == 60 || t == 58 || t == 62
  | _ => false
/-- All other memory is as it was. -/
def Kx (w w' : World) : Prop := ∀ (k : Nat) (o : Obj), w.heap[k]? = some o → isBt o = false → w'.heap[k]? = some o
theorem Kx.of_no {w w' : World} (h : Fr No w w') : Kx w w' := fun k o hk _ => h.heap hk (fun h => h)
theorem Kx.trans {a b c : World} (h : Kx a b) (k : Kx b c) : Kx a c := fun i o hi ho => k i o (h i o hi ho) ho
theorem isFd_of {o : Obj} (h : isBt o = false) : isFd o = false := by
  cases o with
  | map _ _ => cases h
  | cells c t f =>
    unfold isBt at h
    unfold isFd
    simp only [Bool.or_eq_false_iff] at h
    exact h.1.1
  | _ => rfl
theorem Kx.of_kp {w w' : World} (h : Kp w w') : Kx w w' := fun k o hk ho => h k o hk (isFd_of ho)
theorem rb_types : 58 ≠ 60 ∧ 62 ≠ 60 ∧ 69 ≠ 58 ∧ 69 ≠ 62 ∧ 60 ≠ 58 ∧ 60 ≠ 62 := by decide
theorem R15.kp {w w' : World} {rb n cap : Nat} {ao : Option Addr} {room life : Int} {rs : AL} (h : R15 w rb ao n cap room life rs) (k : Kp w w') : R15 w' rb ao n cap room life rs := by
  obtain ⟨t1, t2, -⟩ := rb_types
  refine ⟨k _ _ h.box (by simp only [isFd, beq_eq_false_iff_ne]; exact t1), h.len, ⟨h.own.len, h.own.le, h.own.capLe, h.own.nocap, fun a ha => ?_⟩, h.ok⟩
  obtain ⟨h1, cur, h2, h3⟩ := h.own.row a ha
  exact ⟨h1, cur, k _ _ h2 (by simp only [isFd, beq_eq_false_iff_ne]; exact t2), h3⟩
theorem Kx.of_s15 {w w' : World} {rb n cap : Nat} {ao : Option Addr} {room life : Int} {rs : AL} (h : R15 w rb ao n cap room life rs) (f : Fr (S15 rb ao) w w') : Kx w w' := by
  intro k o hk ho
  refine f.heap hk ?_
  rintro (rfl | ⟨a, ha, rfl⟩)
  · rw [h.box] at hk; cases hk; simp [isBt] at ho
  · obtain ⟨-, cur, h2, -⟩ := h.own.row a ha
    rw [h2] at hk; cases hk; simp [isBt] at ho
theorem FdN.s15 {B : Nat} {w w' : World} {tb mb : Nat} {rm life : Int} {A : AL} (h : FdN B w tb mb rm life A) {rb n cap : Nat} {ao : Option Addr} {room : Int} {rs : AL} (r : R15 w rb ao n cap room life rs) (f : Fr (S15 rb ao) w w') : FdN B w' tb mb rm life A := by
  obtain ⟨t1, t2, t3, t4, t5, t6⟩ := rb_types
  obtain ⟨L, h1, h2, h3⟩ := h
  have key : ∀ (k : Nat) (o : Obj), w.heap[k]? = some o → (∀ c t f, o = .cells c t f → t ≠ 58 ∧ t ≠ 62) → ¬ S15 rb ao k := by
    intro k o hk ho hs
    rcases hs with rfl | ⟨a, ha, rfl⟩
    · rw [r.box] at hk; cases hk; exact (ho _ _ _ rfl).1 rfl
    · obtain ⟨-, cur, g2, -⟩ := r.own.row a ha
      rw [g2] at hk; cases hk; exact (ho _ _ _ rfl).2 rfl
  refine ⟨L, h1.fr f (key _ _ h1.box (fun c t f e => by cases e; exact ⟨t3, t4⟩)) ?_ (fun p hp => key _ _ (h1.ent p hp) (fun c t f e => by cases e; exact ⟨t5, t6⟩)), h2, h3⟩
  obtain ⟨es, c, hm, -⟩ := h1.mp.ex
  exact key _ _ hm (fun c t f e => by cases e)
/-- The program's base with the row A, the reference's with A'. -/
def Bt (w0 w : World) (B tb mb rb : Nat) (rm life : Int) (A A' : AL) : Prop :=
  FdN B w tb mb rm life A ∧ (∃ ao n cap, R15 w rb ao n cap rm life A' ∧ ∀ a, ao = some a → w0.heap.size ≤ a.block) ∧ Fr No w0 w ∧ w0.heap.size ≤ B ∧ w0.heap.size ≤ rb
theorem Bt.no {w0 w w' : World} {B tb mb rb : Nat} {rm life : Int} {A A' : AL} (h : Bt w0 w B tb mb rb rm life A A') (f : Fr No w w') : Bt w0 w' B tb mb rb rm life A A' := by
  obtain ⟨h1, ⟨ao, n, cap, h2, h3⟩, h4, h5, h6⟩ := h
  exact ⟨h1.no f, ⟨ao, n, cap, h2.no f, h3⟩, h4.trans f, h5, h6⟩
theorem Bt.l {w0 w w' : World} {B tb mb rb : Nat} {rm life : Int} {A A' A1 : AL} (h : Bt w0 w B tb mb rb rm life A A') (k : Leaves B w w' tb mb rm life A1) : Bt w0 w' B tb mb rb rm life A1 A' ∧ Kx w w' := by
  obtain ⟨h1, ⟨ao, n, cap, h2, h3⟩, h4, h5, h6⟩ := h
  obtain ⟨k1, k2, k3⟩ := k
  exact ⟨⟨k1, ⟨ao, n, cap, h2.kp k3, h3⟩, h4.upb h5 k2, h5, h6⟩, Kx.of_kp k3⟩
theorem Bt.sor {w0 w : World} {B tb mb rb : Nat} {rm life : Int} {A A' : AL} (h : Bt w0 w B tb mb rb rm life A A') : Sor A := h.1.le.2.2.2.1
theorem Bt.len {w0 w : World} {B tb mb rb : Nat} {rm life : Int} {A A' : AL} (h : Bt w0 w B tb mb rb rm life A A') : A.length ≤ 64 := by have := h.1.le; omega
theorem Bt.r {w0 w w' : World} {B tb mb rb : Nat} {rm life : Int} {A A' A1 : AL} (h : Bt w0 w B tb mb rb rm life A A') {ao : Option Addr} {n cap : Nat} (h2 : R15 w rb ao n cap rm life A') (h3 : ∀ a, ao = some a → w0.heap.size ≤ a.block) (k : Res15 w rb ao rm life A1 w') : Bt w0 w' B tb mb rb rm life A A1 ∧ Kx w w' := by
  obtain ⟨h1, -, h4, h5, h6⟩ := h
  obtain ⟨ao', n', cap', k1, k2, k3⟩ := k
  refine ⟨⟨h1.s15 h2 k3, ⟨ao', n', cap', k1, ?_⟩, ?_, h5, h6⟩, Kx.of_s15 h2 k3⟩
  · rcases k2 with e | e
    · rw [e]; exact h3
    · exact fun a ha => Nat.le_trans h4.size (e a ha)
  · refine h4.then k3 (fun i hi hs => ?_)
    rcases hs with e | ⟨a, ha, e⟩
    · omega
    · have := h3 a ha; omega

variable {w0 w : World} {B tb mb rb : Nat} {rm life : Int} {A A' : AL}
theorem bt_learn_l (h : Bt w0 w B tb mb rb rm life A A') (m : Mac) (p : Pl) {now : Int} (hn0 : 0 ≤ now) (hn1 : now < 18446744073709551616) (hp : -9223372036854775808 ≤ p.n ∧ p.n ≤ 9223372036854775807)
    {b : Bool} {c : Int} {A1 : AL} (hr : alearn rm A m p now = (b, c, A1)) :
    Calls Tryd.prog 10 #[.pointer (some ⟨tb, 0, none⟩), evM m, evPL p, .int .u64 now] w fun e w' => e = .returned (.tuple #[.bool b, .int .i64 c]) ∧ Bt w0 w' B tb mb rb rm life A1 A' ∧ Kx w w' :=
  (fbLearn_n h.1 m p hn0 hn1 hp hr).mono fun e w' ⟨he, k⟩ => ⟨he, h.l k⟩
theorem bt_learn_r (h : Bt w0 w B tb mb rb rm life A A') (hs : Sor A') (hl : A'.length ≤ 64) (m : Mac) (p : Pl) {now : Int} (hn0 : 0 ≤ now) (hn1 : now < 18446744073709551616) (hp : -9223372036854775808 ≤ p.n ∧ p.n ≤ 9223372036854775807)
    {b : Bool} {c : Int} {A1 : AL} (hr : alearn rm A' m p now = (b, c, A1)) :
    Calls Tryd.prog 16 #[.pointer (some ⟨rb, 0, none⟩), evM m, evPL p, .int .u64 now] w fun e w' => e = .returned (.tuple #[.bool b, .int .i64 c]) ∧ Bt w0 w' B tb mb rb rm life A A1 ∧ Kx w w' := by
  obtain ⟨ao, n, cap, h2, h3⟩ := h.2.1
  exact (r15Learn_any h2 hs m p hn0 hn1 hp hl hr).mono fun e w' ⟨he, k⟩ => ⟨he, h.r h2 h3 k⟩
theorem bt_static_l (h : Bt w0 w B tb mb rb rm life A A') (m : Mac) (p : Pl) (hp : -9223372036854775808 ≤ p.n ∧ p.n ≤ 9223372036854775807) {c : Int} {A1 : AL} (hr : astatic rm A m p = (c, A1)) :
    Calls Tryd.prog 18 #[.pointer (some ⟨tb, 0, none⟩), evM m, evPL p] w fun e w' => e = .returned (.int .i64 c) ∧ Bt w0 w' B tb mb rb rm life A1 A' ∧ Kx w w' :=
  (fbStatic_n h.1 m p hp hr).mono fun e w' ⟨he, k⟩ => ⟨he, h.l k⟩
theorem bt_static_r (h : Bt w0 w B tb mb rb rm life A A') (hs : Sor A') (hl : A'.length ≤ 64) (m : Mac) (p : Pl) (hp : -9223372036854775808 ≤ p.n ∧ p.n ≤ 9223372036854775807) {c : Int} {A1 : AL} (hr : astatic rm A' m p = (c, A1)) :
    Calls Tryd.prog 19 #[.pointer (some ⟨rb, 0, none⟩), evM m, evPL p] w fun e w' => e = .returned (.int .i64 c) ∧ Bt w0 w' B tb mb rb rm life A A1 ∧ Kx w w' := by
  obtain ⟨ao, n, cap, h2, h3⟩ := h.2.1
  exact (r15Static_any h2 hs m p hp hl hr).mono fun e w' ⟨he, k⟩ => ⟨he, h.r h2 h3 k⟩
theorem bt_forget_l (h : Bt w0 w B tb mb rb rm life A A') (p : Pl) {c : Int} {A1 : AL} (h1 : aforget A p = A1) (hc : (A.length : Int) - (A1.length : Int) = c) :
    Calls Tryd.prog 20 #[.pointer (some ⟨tb, 0, none⟩), evPL p] w fun e w' => e = .returned (.int .i64 c) ∧ Bt w0 w' B tb mb rb rm life A1 A' ∧ Kx w w' := by
  subst h1
  exact (fbForget_n h.1 p hc).mono fun e w' ⟨he, k, _⟩ => ⟨he, h.l k⟩
theorem bt_forget_r (h : Bt w0 w B tb mb rb rm life A A') (hl : A'.length ≤ 64) (p : Pl) {c : Int} {A1 : AL} (h1 : aforget A' p = A1) (hc : (A'.length : Int) - (A1.length : Int) = c) :
    Calls Tryd.prog 21 #[.pointer (some ⟨rb, 0, none⟩), evPL p] w fun e w' => e = .returned (.int .i64 c) ∧ Bt w0 w' B tb mb rb rm life A A1 ∧ Kx w w' := by
  subst h1
  obtain ⟨ao, n, cap, h2, h3⟩ := h.2.1
  exact (r15Forget_any h2 p hl hc).mono fun e w' ⟨he, k⟩ => ⟨he, h.r h2 h3 k⟩
theorem bt_tick_l (h : Bt w0 w B tb mb rb rm life A A') {now : Int} (hn0 : 0 ≤ now) (hn1 : now < 18446744073709551616) {c : Int} {A1 : AL} (h1 : atick life A now = A1) (hc : (A.length : Int) - (A1.length : Int) = c) :
    Calls Tryd.prog 14 #[.pointer (some ⟨tb, 0, none⟩), .int .u64 now] w fun e w' => e = .returned (.int .i64 c) ∧ Bt w0 w' B tb mb rb rm life A1 A' ∧ Kx w w' := by
  subst h1
  exact (fbTick_n h.1 hn0 hn1 hc).mono fun e w' ⟨he, k⟩ => ⟨he, h.l k⟩
theorem bt_tick_r (h : Bt w0 w B tb mb rb rm life A A') (hl : A'.length ≤ 64) {now : Int} (hn0 : 0 ≤ now) (hn1 : now < 18446744073709551616) {c : Int} {A1 : AL} (h1 : atick life A' now = A1) (hc : (A'.length : Int) - (A1.length : Int) = c) :
    Calls Tryd.prog 24 #[.pointer (some ⟨rb, 0, none⟩), .int .u64 now] w fun e w' => e = .returned (.int .i64 c) ∧ Bt w0 w' B tb mb rb rm life A A1 ∧ Kx w w' := by
  subst h1
  obtain ⟨ao, n, cap, h2, h3⟩ := h.2.1
  exact (r15Tick_any h2 hn0 hn1 hl hc).mono fun e w' ⟨he, k⟩ => ⟨he, h.r h2 h3 k⟩
theorem bt_drop_l (h : Bt w0 w B tb mb rb rm life A A') (m : Mac) {b : Bool} {A1 : AL} (h1 : adel A m = A1) (hb : (aget A m).isSome = b) :
    Calls Tryd.prog 22 #[.pointer (some ⟨tb, 0, none⟩), evM m] w fun e w' => e = .returned (.bool b) ∧ Bt w0 w' B tb mb rb rm life A1 A' ∧ Kx w w' := by
  subst h1
  exact (fbDrop_n h.1 m hb).mono fun e w' ⟨he, k⟩ => ⟨he, h.l k⟩
theorem bt_drop_r (h : Bt w0 w B tb mb rb rm life A A') (hs : Sor A') (hl : A'.length ≤ 64) (m : Mac) {b : Bool} {A1 : AL} (h1 : adel A' m = A1) (hb : (aget A' m).isSome = b) :
    Calls Tryd.prog 23 #[.pointer (some ⟨rb, 0, none⟩), evM m] w fun e w' => e = .returned (.bool b) ∧ Bt w0 w' B tb mb rb rm life A A1 ∧ Kx w w' := by
  subst h1
  obtain ⟨ao, n, cap, h2, h3⟩ := h.2.1
  exact (r15Drop_any h2 hs m hl hb).mono fun e w' ⟨he, k⟩ => ⟨he, h.r h2 h3 k⟩
theorem bt_find_l (h : Bt w0 w B tb mb rb rm life A A') (m : Mac) {now : Int} (hn0 : 0 ≤ now) (hn1 : now < 18446744073709551616) {o : Option Pl} (ho : afind life A m now = o) :
    Calls Tryd.prog 11 #[.pointer (some ⟨tb, 0, none⟩), evM m, .int .u64 now] w fun e w' => e = .returned (.tuple #[evPL (o.getD ⟨false, 0⟩), .bool o.isSome]) ∧ Fr No w w' := fbFind_n h.1 m hn0 hn1 ho
theorem bt_find_r (h : Bt w0 w B tb mb rb rm life A A') (hs : Sor A') (m : Mac) {now : Int} (hn0 : 0 ≤ now) (hn1 : now < 18446744073709551616) {o : Option Pl} (ho : afind life A' m now = o) :
    Calls Tryd.prog 25 #[.pointer (some ⟨rb, 0, none⟩), evM m, .int .u64 now] w fun e w' => e = .returned (.tuple #[evPL (o.getD ⟨false, 0⟩), .bool o.isSome]) ∧ Fr No w w' := by
  obtain ⟨ao, n, cap, h2, h3⟩ := h.2.1
  exact r15Find_any h2 hs m hn0 hn1 ho
set_option maxRecDepth 100000 in
set_option maxHeartbeats 1000000 in
theorem l15place_any (p : Pl) (w : World) : Calls Tryd.prog 17 #[evPL p] w fun e w' => e = .returned (evPL p) ∧ Fr No w w' := by
  obtain ⟨pt, pn⟩ := p
  have h2 := heap_alloc_new (w.alloc (.cells #[.bool pt, .int .i64 pn] 33)) (.cells #[.bool pt, .int .i64 pn] 48)
  simp only [World.size_alloc] at h2
  have HF := Lib.hid (((Fr.refl No w).alloc (.cells #[.bool pt, .int .i64 pn] 33)).alloc (.cells #[.bool pt, .int .i64 pn] 48))
  have H2 := Lib.hid h2
  clear h2
  unfold evPL
  simp only
  go_enter Tryd.func17, Tryd.ntmps17
  go_wp2_with fail
  have h2 := H2.out
  clear H2
  generalize World.alloc _ _ = w2 at h2 HF ⊢
  obtain ⟨p0, p1⟩ := cells2 h2
  refine bodyPost_ret (v := .agg #[.bool pt, .int .i64 pn]) (by simp [results, Tryd.results17, go_sem, p0, p1]) rfl ?_
  exact ⟨rfl, HF.out⟩
end Go.Proofs.YtgmaelndhmnjiaaDoor
