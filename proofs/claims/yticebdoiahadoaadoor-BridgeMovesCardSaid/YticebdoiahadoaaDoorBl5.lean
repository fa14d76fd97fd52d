/- bridge laws: the steps, and what floods. -/
import Derived.Test.YticebdoiahadoaaDoorBl4
namespace Go.Proofs.YticebdoiahadoaaDoor
open Go.RowKit
set_option linter.unusedVariables false
set_option linter.unusedSimpArgs false
/-- The step at i*5 of a row. -/
def StAt (w : World) (a : Addr) (i : Nat) (x : St16) : Prop := ∃ bo cap, w.cell? (a.add (i * 5)) = some (.int .i64 x.kind) ∧ w.cell? ⟨(a.add (i * 5)).block, (a.add (i * 5)).off + 1, none⟩ = some (.int .i64 x.n) ∧ w.cell? ⟨(a.add (i * 5)).block, (a.add (i * 5)).off + 2, none⟩ = some (.int .i64 x.s) ∧
  w.cell? ⟨(a.add (i * 5)).block, (a.add (i * 5)).off + 3, none⟩ = some (.slice bo x.b.length cap) ∧ w.cell? ⟨(a.add (i * 5)).block, (a.add (i * 5)).off + 4, none⟩ = some (.int .u8 (x.by_.toNat : Int)) ∧ Bs w bo x.b.length cap x.b
def Rs16 (w : World) (ao : Option Addr) (n cap : Nat) (xs : List St16) : Prop :=
  n = xs.length ∧ n ≤ cap ∧ cap ≤ 9223372036854775807 ∧ (ao = none → cap = 0) ∧ (∀ a, ao = some a → ∀ i x, xs[i]? = some x → StAt w a i x) ∧ ∀ x ∈ xs, okSt x
theorem StAt.no {w w' : World} {a : Addr} {i : Nat} {x : St16} (h : StAt w a i x) (hf : Fr No w w') : StAt w' a i x := by
  obtain ⟨bo, cap, h0, h1, h2, h3, h4, h5⟩ := h
  exact ⟨bo, cap, hf.cell h0 (fun h => h), hf.cell h1 (fun h => h), hf.cell h2 (fun h => h), hf.cell h3 (fun h => h), hf.cell h4 (fun h => h), h5.no hf⟩

theorem BrZ.one {Z : Nat → Prop} {w : World} {bb : Nat} {room life : Int} {X : AB} (h : BrZ Z w bb room life X) (o : Obj) : ∃ Z1, BrZ Z1 (w.alloc o) bb room life X ∧ (∀ k, Z k → Z1 k) ∧ Z1 w.heap.size :=
  ⟨_, h.more ((Fr.refl No w).alloc o), fun k hk => .inl hk, .inr ⟨Nat.le_refl _, by simp⟩⟩
theorem BrZ.good {Z : Nat → Prop} {w : World} {bb : Nat} {room life : Int} {X : AB} (h : BrZ Z w bb room life X) : Good X := by
  obtain ⟨-, B, -, h2, -⟩ := h
  exact h2.good
theorem delI_len {zs : List Int} (h : Ris zs) {x : Int} (hx : x ∈ zs) : (delI zs x).length + 1 = zs.length := by
  induction zs with
  | nil => cases hx
  | cons a r ih =>
    obtain ⟨h1, h2⟩ := List.pairwise_cons.1 h
    unfold delI at ih ⊢
    by_cases e : a = x
    · subst e
      have hn : r.filter (fun y => !decide (y = a)) = r := List.filter_eq_self.2 (fun y hy => by have := h1 y hy; simp; omega)
      rw [List.filter_cons, if_neg (by simp), hn]; rfl
    · have hr : x ∈ r := by rcases List.mem_cons.1 hx with h | h; exact absurd h.symm e; exact h
      rw [List.filter_cons, if_pos (by simpa using e), List.length_cons, ih h2 hr]; rfl
theorem aGoes_fl {s : AS} {fr : Pl} {o : Option Pl} (h : (aGoes s fr o).fl = true) : o = none := by
  cases o with
  | none => rfl
  | some p =>
    exfalso
    unfold aGoes at h
    simp only at h
    split at h
    · cases h
    · split at h <;> cases h
/-- What a frame that goes says. -/
theorem aFrame_ok {room life : Int} {s : AS} {fr : Pl} {b : List UInt8} {now : Int} {f : AOut × Int × AL} (hf : aFrame room life s fr b now = f) (h0 : f.2.1 = 0) :
    14 ≤ b.length ∧ (grpM (macOf b 0) = true → f.1.fl = true) ∧ (f.1.fl = true → f.1.ps = (if fr.tun = true then s.ps else delI s.ps fr.n) ∧ f.1.qs = (if fr.tun = true then [] else s.qs)) := by
  unfold aFrame at hf
  split at hf
  · subst hf; cases h0
  rename_i h14
  split at hf
  · subst hf; cases h0
  split at hf
  · subst hf; cases h0
  subst hf
  refine ⟨by omega, fun hg => ?_, fun hfl => ?_⟩
  · simp only [hg, if_true]; rfl
  · have := aGoes_fl hfl
    simp only [this]
    exact ⟨rfl, rfl⟩
/-- What a step's frame says. -/
def FlS (x : St16) (r : AOut × Int × AB) : Prop :=
  okSeg r.2.1 ∧ 14 ≤ x.b.length ∧ (grpM (macOf x.b 0) = true → r.1.fl = true) ∧
    (r.1.fl = true → (r.1.ps.length : Int) = (if x.kind ≤ 7 then ((r.2.2.at r.2.1).ps.length : Int) - 1 else ((r.2.2.at r.2.1).ps.length : Int)) ∧ (r.1.qs.length : Int) = (if x.kind ≤ 7 then ((r.2.2.at r.2.1).qs.length : Int) else 0))
theorem does_floods {room life : Int} {X : AB} (hg : Good X) {x : St16} {now : Int} {r : AOut × Int × AB} (hr : aDoes room life X x now = r) : r.2.1 = -1 ∨ FlS x r := by
  unfold aDoes at hr
  split at hr; · subst hr; exact .inl rfl
  split at hr; · subst hr; exact .inl rfl
  split at hr; · subst hr; exact .inl rfl
  split at hr; · subst hr; exact .inl rfl
  split at hr
  · rename_i hk
    have hk7 : x.kind ≤ 7 := by omega
    split at hr
    · rename_i hc
      right
      subst hr
      cases hm : mget X.bd x.n with
      | none => unfold aFromPort at hc; rw [hm] at hc; cases hc
      | some i =>
        have hi := (hg.bk x.n i hm).2
        obtain ⟨f, hf⟩ : ∃ f, aFrame room life (X.at i) ⟨false, x.n⟩ x.b now = f := ⟨_, rfl⟩
        have he : aFromPort room life X x.n x.b now = (f.1, f.2.1, X.put i ⟨f.2.2, (X.at i).ps, (X.at i).qs⟩) := by unfold aFromPort; rw [hm]; simp only [hf]
        rw [he] at hc ⊢
        obtain ⟨a1, a2, a3⟩ := aFrame_ok hf hc
        refine ⟨hi, a1, a2, fun hfl => ?_⟩
        obtain ⟨e1, e2⟩ := a3 hfl
        simp only [Option.getD_some]
        rw [at_put hg.len hi hi, if_pos rfl, if_pos hk7, if_pos hk7]
        simp only
        rw [e1, e2]
        simp only [Bool.false_eq_true, if_false]
        have := delI_len (hg.rp i hi) ((hg.mem i hi x.n).2 hm)
        exact ⟨by omega, trivial⟩
    · subst hr; exact .inl rfl
  split at hr
  · rename_i hk
    have hk7 : ¬ x.kind ≤ 7 := by omega
    split at hr
    · rename_i hc
      right
      subst hr
      by_cases hi : ¬ okSeg x.s ∨ ¬ x.n ∈ (X.at x.s).qs
      · unfold aFromTunnel at hc; rw [if_pos hi] at hc; cases hc
      · have hs : okSeg x.s := Classical.byContradiction fun h => hi (.inl h)
        obtain ⟨f, hf⟩ : ∃ f, aFrame room life (X.at x.s) ⟨true, x.n⟩ x.b now = f := ⟨_, rfl⟩
        have he : aFromTunnel room life X x.s x.n x.b now = (f.1, f.2.1, X.put x.s ⟨f.2.2, (X.at x.s).ps, (X.at x.s).qs⟩) := by unfold aFromTunnel; rw [if_neg hi]; simp only [hf]
        rw [he] at hc ⊢
        obtain ⟨a1, a2, a3⟩ := aFrame_ok hf hc
        refine ⟨hs, a1, a2, fun hfl => ?_⟩
        obtain ⟨e1, e2⟩ := a3 hfl
        simp only
        rw [at_put hg.len hs hs, if_pos rfl, if_neg hk7, if_neg hk7]
        simp only
        rw [e1, e2]
        exact ⟨rfl, rfl⟩
    · subst hr; exact .inl rfl
  · subst hr; exact .inl rfl
end Go.Proofs.YticebdoiahadoaaDoor