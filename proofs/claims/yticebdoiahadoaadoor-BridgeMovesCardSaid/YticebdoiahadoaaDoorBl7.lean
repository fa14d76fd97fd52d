/- bridge laws: who was learned is found; times. -/
import Derived.Test.YticebdoiahadoaaDoorBl6
namespace Go.Proofs.YticebdoiahadoaaDoor
open Go.RowKit
set_option linter.unusedVariables false
set_option linter.unusedSimpArgs false
/-- No entry was heard later than t. -/
def Tl (X : AB) (t : Int) : Prop := ∀ n, okSeg n → ∀ e ∈ (X.at n).A, e.at_ ≤ t
/-- Each row rises. -/
def Srt (X : AB) : Prop := ∀ n, okSeg n → Sor (X.at n).A
theorem Tl.new (t : Int) : Tl AB.new t := fun n hn e he => by rw [new_at hn] at he; cases he
theorem Tl.mono {X : AB} {t t' : Int} (h : Tl X t) (ht : t ≤ t') : Tl X t' := fun n hn e he => Int.le_trans (h n hn e he) ht
theorem BrZ.srt {Z : Nat → Prop} {w : World} {bb : Nat} {room life : Int} {X : AB} (h : BrZ Z w bb room life X) : Srt X := by
  obtain ⟨-, B, -, h2, -⟩ := h
  exact fun n hn => (h2.seg n hn).ab.sor
theorem BrZ.alen {Z : Nat → Prop} {w : World} {bb : Nat} {room life : Int} {X : AB} (h : BrZ Z w bb room life X) {n : Int} (hn : okSeg n) : ((X.at n).A.length : Int) ≤ room := by
  obtain ⟨-, B, -, h2, -⟩ := h
  have h3 := (h2.seg n hn)
  have h4 := h3.ab.len
  have h5 := h3.fd.lr
  omega
/-- One segment's row alone turns. -/
theorem Tl.set {X : AB} (hg : Good X) {t : Int} (h : Tl X t) {bd : List (Int × Int)} {n : Int} (hn : okSeg n) {s : AS} (hs : ∀ e ∈ s.A, e.at_ ≤ t) : Tl ⟨bd, X.sg.set n.toNat s⟩ t := by
  intro m hm e he
  have ea : (⟨bd, X.sg.set n.toNat s⟩ : AB).at m = if m = n then s else X.at m := at_put hg.len hn hm _
  rw [ea] at he
  split at he
  · exact hs e he
  · exact h m hm e he
theorem Tl.unbind {X : AB} (hg : Good X) {t : Int} (h : Tl X t) (p : Int) : Tl (aUnbind X p).2 t := by
  unfold aUnbind
  cases hm : mget X.bd p with
  | none => exact h
  | some i => exact Tl.set hg h (hg.bk p i hm).2 (fun e he => h i (hg.bk p i hm).2 e (mem_aforget he).1)
theorem Tl.bind {X : AB} (hg : Good X) {t : Int} (h : Tl X t) (p u : Int) : Tl (aBind X p u).2 t := by
  unfold aBind
  split
  · exact h
  split
  · exact h
  split
  · exact h
  rename_i h1 h2 h3
  have hu : okSeg u := Classical.byContradiction fun hh => h1 (.inr hh)
  exact Tl.set (hg.unbind p) (h.unbind hg p) hu (fun e he => (h.unbind hg p) u hu e he)
theorem Tl.peer {X : AB} (hg : Good X) {t : Int} (h : Tl X t) (n u : Int) : Tl (aPeer X n u).2 t := by
  unfold aPeer
  split
  · exact h
  split
  · exact h
  split
  · exact h
  rename_i h1 h2 h3
  have hn : okSeg n := Classical.byContradiction fun hh => h1 (.inr hh)
  exact Tl.set hg h hn (fun e he => h n hn e he)
theorem Tl.unpeer {X : AB} (hg : Good X) {t : Int} (h : Tl X t) (n u : Int) : Tl (aUnpeer X n u).2 t := by
  unfold aUnpeer
  split
  · exact h
  rename_i h1
  have hn : okSeg n := Classical.byContradiction fun hh => h1 (.inl hh)
  exact Tl.set hg h hn (fun e he => h n hn e (mem_aforget he).1)
theorem aFrame_tl {room life : Int} {s : AS} {fr : Pl} {b : List UInt8} {now : Int} (h : ∀ e ∈ s.A, e.at_ ≤ now) : ∀ e ∈ (aFrame room life s fr b now).2.2, e.at_ ≤ now := by
  intro e he
  unfold aFrame at he
  split at he
  · exact h e he
  split at he
  · exact h e he
  split at he
  · exact h e he
  rcases mem_alearn he with rfl | h1
  · exact Int.le_refl _
  · exact h e h1
theorem Tl.fromPort {X : AB} (hg : Good X) {now : Int} (h : Tl X now) (room life : Int) (p : Int) (b : List UInt8) : Tl (aFromPort room life X p b now).2.2 now := by
  unfold aFromPort
  cases hm : mget X.bd p with
  | none => exact h
  | some i => exact Tl.set hg h (hg.bk p i hm).2 (aFrame_tl (fun e he => h i (hg.bk p i hm).2 e he))
theorem Tl.fromTunnel {X : AB} (hg : Good X) {now : Int} (h : Tl X now) (room life : Int) (n t : Int) (b : List UInt8) : Tl (aFromTunnel room life X n t b now).2.2 now := by
  unfold aFromTunnel
  split
  · exact h
  rename_i h1
  have hn : okSeg n := Classical.byContradiction fun hh => h1 (.inl hh)
  exact Tl.set hg h hn (aFrame_tl (fun e he => h n hn e he))
theorem Tl.does {X : AB} (hg : Good X) {now : Int} (h : Tl X now) (room life : Int) (x : St16) : Tl (aDoes room life X x now).2.2 now := by
  unfold aDoes
  split; · exact Tl.bind hg h _ _
  split; · exact Tl.unbind hg h _
  split; · exact Tl.peer hg h _ _
  split; · exact Tl.unpeer hg h _ _
  split
  · split
    · exact Tl.fromPort hg h _ _ _ _
    · exact Tl.fromPort hg h _ _ _ _
  split
  · split
    · exact Tl.fromTunnel hg h _ _ _ _ _
    · exact Tl.fromTunnel hg h _ _ _ _ _
  · exact h
/-- Who is new, and where nobody is static, is learned. -/
theorem aget_aput {A : AL} (h : Sor A) (e : En) (m : Mac) : aget (aput A e) m = if m = e.mac then some e else aget A m := by
  by_cases hm : m = e.mac
  · rw [if_pos hm]
    exact (aget_some (h.put e)).2 ⟨mem_aput.2 (.inl rfl), hm.symm⟩
  · rw [if_neg hm]
    cases hg : aget A m with
    | none =>
      rw [aget_none] at hg ⊢
      intro x hx
      rcases mem_aput.1 hx with rfl | ⟨h1, -⟩
      · exact fun e => hm e.symm
      · exact hg x h1
    | some y =>
      obtain ⟨h1, h2⟩ := (aget_some h).1 hg
      exact (aget_some (h.put e)).2 ⟨mem_aput.2 (.inr ⟨h1, by rw [h2]; exact hm⟩), h2⟩
theorem aget_adel {A : AL} (h : Sor A) (k m : Mac) : aget (adel A k) m = if m = k then none else aget A m := by
  by_cases hm : m = k
  · rw [if_pos hm, aget_none]
    intro x hx
    rw [hm]; exact (mem_adel.1 hx).2
  · rw [if_neg hm]
    cases hg : aget A m with
    | none =>
      rw [aget_none] at hg ⊢
      exact fun x hx => hg x (mem_adel.1 hx).1
    | some y =>
      obtain ⟨h1, h2⟩ := (aget_some h).1 hg
      exact (aget_some (h.filter _)).2 ⟨mem_adel.2 ⟨h1, by rw [h2]; exact hm⟩, h2⟩
theorem Sor.del {A : AL} (h : Sor A) (k : Mac) : Sor (adel A k) := h.filter _
theorem alearn_new {room : Int} {A : AL} (hs : Sor A) (hst : ∀ e ∈ A, e.st = false) (hr : 1 ≤ room) {m : Mac} (hg : grpM m = false) (p : Pl) (now : Int) :
    (alearn room A m p now).2.1 = 0 ∧ aget (alearn room A m p now).2.2 m = some ⟨m, p.tun, p.n, now, false⟩ ∧ Sor (alearn room A m p now).2.2 ∧ ∀ e ∈ (alearn room A m p now).2.2, e.st = false := by
  refine ⟨?_, ?_, ?_, fun e he => ?_⟩
  all_goals (try unfold alearn; try rw [hg])
  · simp only [Bool.false_eq_true, if_false]
    cases ha : aget A m with
    | none =>
      simp only
      unfold aadd
      split
      · rfl
      · cases hl : aleast A with
        | none =>
          exfalso
          have h1 := aleast_none.1 hl
          cases A with
          | nil => rename_i h2; simp at h2; omega
          | cons x l => have h3 := h1 x (by simp); rw [hst x (by simp)] at h3; cases h3
        | some q => rfl
    | some e => rfl
  · simp only [Bool.false_eq_true, if_false]
    cases ha : aget A m with
    | none =>
      simp only
      unfold aadd
      split
      · rw [aget_aput hs, if_pos rfl]
      · cases hl : aleast A with
        | none =>
          exfalso
          have h1 := aleast_none.1 hl
          cases A with
          | nil => rename_i h2; simp at h2; omega
          | cons x l => have h3 := h1 x (by simp); rw [hst x (by simp)] at h3; cases h3
        | some q =>
          have hh := aget_aput (hs.filter (fun e => decide (e.mac ≠ q.mac))) ⟨m, p.tun, p.n, now, false⟩ m
          rw [if_pos rfl] at hh
          exact hh
    | some e =>
      simp only
      rw [if_neg (by rw [hst e (aget_mem ha)]; simp), aget_aput hs, if_pos rfl]
  · simp only [Bool.false_eq_true, if_false]
    cases ha : aget A m with
    | none =>
      simp only
      unfold aadd
      split
      · exact hs.put _
      · cases hl : aleast A with
        | none => exact hs
        | some q => exact (hs.filter _).put _
    | some e =>
      simp only
      split
      · exact hs
      · exact hs.put _
  · rcases mem_alearn he with rfl | h1
    · rfl
    · exact hst e h1
/-- Who was heard last is still there behind another one. -/
theorem alearn_keeps {room : Int} {A : AL} (hs : Sor A) (hst : ∀ e ∈ A, e.st = false) (hr : 2 ≤ room) {m : Mac} (hg : grpM m = false) (p : Pl) {now : Int} {k : Mac} {e : En} (hk : aget A k = some e) (hkm : k ≠ m) (hat : ∀ x ∈ A, x.mac ≠ k → x.at_ < e.at_) :
    aget (alearn room A m p now).2.2 k = some e := by
  unfold alearn
  rw [hg]
  simp only [Bool.false_eq_true, if_false]
  obtain ⟨e1, e2⟩ := (aget_some hs).1 hk
  cases ha : aget A m with
  | none =>
    simp only
    unfold aadd
    split
    · rw [aget_aput hs, if_neg hkm]; exact hk
    · rename_i hlen
      cases hl : aleast A with
      | none => exact hk
      | some q =>
        show aget (aput (adel A q.mac) _) k = _
        rw [aget_aput (hs.del q.mac), if_neg hkm, aget_adel hs]
        obtain ⟨q1, q2, q3⟩ := aleast_some hs hl
        rw [if_neg ?_]
        · exact hk
        · intro hq
          have hqe : q = e := hs.inj q1 e1 (by rw [e2, hq])
          subst hqe
          have hx : ∃ x ∈ A, x.mac ≠ k := by
            apply Classical.byContradiction
            intro hno
            have hall : ∀ x ∈ A, x = q := fun x hx => hs.inj hx e1 (by rw [e2]; exact Classical.byContradiction fun hne => hno ⟨x, hx, hne⟩)
            have hn := hs.nodup
            cases A with
            | nil => cases e1
            | cons a r =>
              cases r with
              | nil => simp at hlen; omega
              | cons b s =>
                have h1 := hall a (by simp)
                have h2 := hall b (by simp)
                rw [h1, h2] at hn
                simp at hn
          obtain ⟨x, hx, hne⟩ := hx
          have := q3 x hx (hst x hx)
          rw [cmpA_neg] at this
          exact this (.inl (hat x hx hne))
  | some y =>
    simp only
    rw [if_neg (by rw [hst y (aget_mem ha)]; simp), aget_aput hs, if_neg hkm]; exact hk
theorem oldE_now {life : Int} (hl : 1 ≤ life) (e : En) {now : Int} (h : e.at_ = now) : oldE life e now = false := by
  unfold oldE
  rw [h, Int.min_self]
  simp
  intro _
  omega
theorem macOf_frB (t o : Mac) : macOf (frB t o) 0 = t ∧ macOf (frB t o) 6 = o := ⟨rfl, rfl⟩
theorem len_frB (t o : Mac) : (frB t o).length = 60 := rfl
/-- A frame from a place, of one that is no group's, where nobody is static. -/
theorem aFrame_frB {room life : Int} {s : AS} (fr : Pl) {t o : Mac} (now : Int) (ho : grpM o = false) :
    aFrame room life s fr (frB t o) now = (aGoes s fr (if grpM t = true then none else afind life (alearn room s.A o fr now).2.2 t now), 0, (alearn room s.A o fr now).2.2) := by
  unfold aFrame
  rw [(macOf_frB t o).1, (macOf_frB t o).2, len_frB, ho]
  simp
theorem aFromPort_at {room life : Int} {X : AB} {p i : Int} (h : mget X.bd p = some i) (b : List UInt8) (now : Int) {f : AOut × Int × AL} (hf : aFrame room life (X.at i) ⟨false, p⟩ b now = f) :
    aFromPort room life X p b now = (f.1, f.2.1, X.put i ⟨f.2.2, (X.at i).ps, (X.at i).qs⟩) := by
  unfold aFromPort
  rw [h]
  simp only [hf]
/-- The three frames of BridgeLearns. -/
theorem learns_law {room life : Int} (hr : 2 ≤ room) (hl : 1 ≤ life) {X : AB} (hg : Good X) (hst : Stl X) (hs : Srt X) {t : Int} (ht : Tl X t) {now : Int} (hnow : t < now) {p q s : Int} (hp : mget X.bd p = some s) (hq : mget X.bd q = some s) (hpq : p ≠ q) {o u : Mac} (ho : grpM o = false) (hu : grpM u = false) (hou : o ≠ u) :
    ∃ out1 X1 X2 X3, aFromPort room life X p (frB u o) now = (out1, 0, X1) ∧ afind life (X1.at s).A o now = some ⟨false, p⟩ ∧ aFromPort room life X1 q (frB o u) now = (⟨[p], [], false⟩, 0, X2) ∧ aFromPort room life X2 p (frB o o) now = (noOut, 0, X3) := by
  have hsg := (hg.bk p s hp).2
  have st0 : ∀ e ∈ (X.at s).A, e.st = false := fun e he => (hst s hsg e he).1
  obtain ⟨a1, a2, a3, a4⟩ := alearn_new (room := room) (hs s hsg) st0 (by omega) ho ⟨false, p⟩ now
  obtain ⟨A1, hA1⟩ : ∃ A, (alearn room (X.at s).A o ⟨false, p⟩ now).2.2 = A := ⟨_, rfl⟩
  have m1 : ∀ x ∈ A1, x.mac ≠ o → x.at_ < now := by
    intro x hx hne
    rw [← hA1] at hx
    rcases mem_alearn hx with rfl | h
    · exact absurd rfl hne
    · have := ht s hsg x h; omega
  rw [hA1] at a2 a3 a4
  have k2 := alearn_keeps a3 a4 hr hu ⟨false, q⟩ (now := now) a2 hou m1
  obtain ⟨b1, b2, b3, b4⟩ := alearn_new a3 a4 (by omega) hu ⟨false, q⟩ now (room := room)
  obtain ⟨A2, hA2⟩ : ∃ A, (alearn room A1 u ⟨false, q⟩ now).2.2 = A := ⟨_, rfl⟩
  rw [hA2] at k2 b2 b3 b4
  obtain ⟨c1, c2, c3, c4⟩ := alearn_new b3 b4 (by omega) ho ⟨false, p⟩ now (room := room)
  obtain ⟨A3, hA3⟩ : ∃ A, (alearn room A2 o ⟨false, p⟩ now).2.2 = A := ⟨_, rfl⟩
  rw [hA3] at c2
  have find : ∀ {A : AL} {r : Pl}, aget A o = some ⟨o, r.tun, r.n, now, false⟩ → afind life A o now = some r := by
    intro A r h
    unfold afind
    rw [h]
    simp only [Option.bind_some]
    rw [oldE_now hl _ rfl]
    rfl
  have F1 := aFrame_frB (room := room) (life := life) (s := X.at s) ⟨false, p⟩ (t := u) now ho
  rw [hA1, hu] at F1
  simp only [Bool.false_eq_true, if_false] at F1
  have P1 := aFromPort_at hp (frB u o) now F1
  simp only at P1
  obtain ⟨X1, hX1⟩ : ∃ Y, X.put s ⟨A1, (X.at s).ps, (X.at s).qs⟩ = Y := ⟨_, rfl⟩
  rw [hX1] at P1
  have hg1 : Good X1 := by rw [← hX1]; exact hg.base hsg A1
  have at1 : X1.at s = ⟨A1, (X.at s).ps, (X.at s).qs⟩ := by rw [← hX1, at_put hg.len hsg hsg, if_pos rfl]
  have bd1 : X1.bd = X.bd := by rw [← hX1]; rfl
  have F2 := aFrame_frB (room := room) (life := life) (s := X1.at s) ⟨false, q⟩ (t := o) now hu
  rw [at1] at F2
  simp only at F2
  rw [hA2, ho, find k2] at F2
  have g2 : aGoes ⟨A1, (X.at s).ps, (X.at s).qs⟩ ⟨false, q⟩ (some ⟨false, p⟩) = ⟨[p], [], false⟩ := by
    unfold aGoes
    simp [hpq]
  simp only [Bool.false_eq_true, if_false] at F2
  rw [g2, ← at1] at F2
  have P2 := aFromPort_at (X := X1) (by rw [bd1]; exact hq) (frB o u) now F2
  simp only at P2
  obtain ⟨X2, hX2⟩ : ∃ Y, X1.put s ⟨A2, (X1.at s).ps, (X1.at s).qs⟩ = Y := ⟨_, rfl⟩
  rw [hX2] at P2
  have at2 : X2.at s = ⟨A2, (X1.at s).ps, (X1.at s).qs⟩ := by rw [← hX2, at_put hg1.len hsg hsg, if_pos rfl]
  have bd2 : X2.bd = X.bd := by rw [← hX2]; exact bd1
  have F3 := aFrame_frB (room := room) (life := life) (s := X2.at s) ⟨false, p⟩ (t := o) now ho
  rw [at2] at F3
  simp only at F3
  rw [hA3, ho, find c2] at F3
  have g3 : aGoes ⟨A2, (X1.at s).ps, (X1.at s).qs⟩ ⟨false, p⟩ (some ⟨false, p⟩) = noOut := by
    unfold aGoes
    simp
  simp only [Bool.false_eq_true, if_false] at F3
  rw [g3, ← at2] at F3
  have P3 := aFromPort_at (X := X2) (by rw [bd2]; exact hp) (frB o o) now F3
  simp only at P3
  refine ⟨_, X1, X2, _, P1, ?_, P2, P3⟩
  rw [at1]
  exact find a2
/-- A segment's base, and what it finds. -/
theorem bgBase_fd {Z : Nat → Prop} {w : World} {bb : Nat} {room life : Int} {X : AB} (h : BrZ Z w bb room life X) {n : Int} (hn : okSeg n) :
    ∃ tb mb L, (∀ W, Fr No w W → Calls Tryd.prog 6 #[.pointer (some ⟨bb, 0, none⟩), .int .i64 n] W (fun e w' => e = .returned (.pointer (some ⟨tb, 0, none⟩)) ∧ W = w')) ∧ Fd w tb mb room life L ∧ Ab L (X.at n).A ∧ (∀ k, Z k → k ≠ tb) := by
  obtain ⟨h0, B, rfl, h2, h3⟩ := h
  refine ⟨(B.at n).tb, (B.at n).mb, (B.at n).L, fun W hW => bgBase_in (h2.no hW) hn, (h2.seg n hn).fd, (h2.seg n hn).ab, fun k hk e => ?_⟩
  subst e
  exact h3 _ (.inr (.inr ⟨n, hn, .inr (.inl rfl)⟩)) hk
end Go.Proofs.YticebdoiahadoaaDoor