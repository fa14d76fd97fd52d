/- bridge laws: who moves (plain). -/
import Derived.Test.YticebdoiahadoaaDoorBl7
namespace Go.Proofs.YticebdoiahadoaaDoor
open Go.RowKit
set_option linter.unusedVariables false
set_option linter.unusedSimpArgs false
/-- A row that holds two MACs at most, none static. -/
structure Okt (o u : Mac) (A : AL) : Prop where
  sor : Sor A
  mac : ∀ e ∈ A, e.mac = o ∨ e.mac = u
  st : ∀ e ∈ A, e.st = false
theorem Okt.nil (o u : Mac) : Okt o u [] := ⟨List.Pairwise.nil, (fun e he => by cases he), (fun e he => by cases he)⟩
theorem Okt.short {o u : Mac} {A : AL} (h : Okt o u A) {m : Mac} (hm : m = o ∨ m = u) (hn : aget A m = none) : A.length ≤ 1 := by
  have hn := aget_none.1 hn
  have nd := h.sor.nodup
  have h1 := h.mac
  cases A with
  | nil => simp
  | cons a r =>
    cases r with
    | nil => simp
    | cons b s =>
      exfalso
      have ha := hn a (by simp)
      have hb := hn b (by simp)
      have ha1 := h1 a (by simp)
      have hb1 := h1 b (by simp)
      simp only [List.map_cons, List.nodup_cons, List.mem_cons, not_or] at nd
      have hne := nd.1.1
      rcases hm with rfl | rfl
      · rcases ha1 with e | e
        · exact ha e
        · rcases hb1 with e2 | e2
          · exact hb e2
          · exact hne (e.trans e2.symm)
      · rcases ha1 with e | e
        · rcases hb1 with e2 | e2
          · exact hne (e.trans e2.symm)
          · exact hb e2
        · exact ha e
theorem Okt.learn {o u : Mac} {A : AL} (h : Okt o u A) {room : Int} (hr : 2 ≤ room) {m : Mac} (hm : m = o ∨ m = u) (hg : grpM m = false) (p : Pl) (now : Int) :
    (alearn room A m p now).2.2 = aput A ⟨m, p.tun, p.n, now, false⟩ ∧ Okt o u (aput A ⟨m, p.tun, p.n, now, false⟩) := by
  refine ⟨?_, h.sor.put _, fun e he => ?_, fun e he => ?_⟩
  · unfold alearn
    rw [hg]
    simp only [Bool.false_eq_true, if_false]
    cases ha : aget A m with
    | none =>
      simp only
      unfold aadd
      rw [if_pos (by have := h.short hm ha; omega)]
    | some e =>
      simp only
      rw [if_neg (by rw [h.st e (aget_mem ha)]; simp)]
  · rcases mem_aput.1 he with rfl | ⟨h1, -⟩
    · exact hm
    · exact h.mac e h1
  · rcases mem_aput.1 he with rfl | ⟨h1, -⟩
    · rfl
    · exact h.st e h1
def mvX : Nat → AB
  | 0 => AB.new
  | k + 1 => (aPeer (aBind (mvX k) (k + 1) 0).2 0 (k + 1)).2
def mvAll : Mac := ⟨255, 255, 255, 255, 255, 255⟩
structure MvI (o u : Mac) (X : AB) : Prop where
  good : Good X
  bd : ∀ i : Int, 1 ≤ i → i ≤ 5 → mget X.bd i = some 0
  qs : ∀ i : Int, 1 ≤ i → i ≤ 5 → i ∈ (X.at 0).qs
  ok : Okt o u (X.at 0).A
theorem int5 {i : Int} (h1 : 1 ≤ i) (h2 : i ≤ 5) : i = 1 ∨ i = 2 ∨ i = 3 ∨ i = 4 ∨ i = 5 := by omega
theorem MvI.start (o u : Mac) : MvI o u (mvX 5) := by
  have hg : ∀ k : Nat, k ≤ 100 → Good (mvX k) := by
    intro k
    induction k with
    | zero => intro _; exact Good.new
    | succ k ih => intro hk; exact ((ih (by omega)).bind (by omega)).peer (by omega)
  refine ⟨hg 5 (by omega), fun i h1 h2 => ?_, fun i h1 h2 => ?_, ?_⟩
  · rcases int5 h1 h2 with rfl | rfl | rfl | rfl | rfl <;> rfl
  · have e : ((mvX 5).at 0).qs = [1, 2, 3, 4, 5] := by rfl
    rw [e]
    rcases int5 h1 h2 with rfl | rfl | rfl | rfl | rfl <;> simp
  · have e : ((mvX 5).at 0).A = [] := by rfl
    rw [e]
    exact Okt.nil o u
theorem ok0 : okSeg 0 := by decide
/-- One segment's row turns. -/
theorem MvI.put {o u : Mac} {X : AB} (h : MvI o u X) {A : AL} (hA : Okt o u A) : MvI o u (X.put 0 ⟨A, (X.at 0).ps, (X.at 0).qs⟩) := by
  have e : (X.put 0 ⟨A, (X.at 0).ps, (X.at 0).qs⟩).at 0 = ⟨A, (X.at 0).ps, (X.at 0).qs⟩ := by rw [at_put h.good.len ok0 ok0, if_pos rfl]
  exact ⟨h.good.base ok0 A, h.bd, fun i h1 h2 => by rw [e]; exact h.qs i h1 h2, by rw [e]; exact hA⟩
theorem find_aput {A : AL} (hs : Sor A) {life : Int} (hl : 1 ≤ life) {o : Mac} (p : Pl) (now : Int) : afind life (aput A ⟨o, p.tun, p.n, now, false⟩) o now = some p := by
  unfold afind
  rw [aget_aput hs, if_pos rfl]
  simp only [Option.bind_some]
  rw [oldE_now hl _ rfl]
  rfl
theorem find_other {A : AL} (hs : Sor A) {life : Int} {o : Mac} {now : Int} {p : Pl} (hf : afind life A o now = some p) {e : En} (hne : o ≠ e.mac) : afind life (aput A e) o now = some p := by
  unfold afind at hf ⊢
  rw [aget_aput hs, if_neg hne]
  exact hf
/-- A frame of it, and one to it from port 5. -/
theorem mv_step {room life : Int} (hr : 2 ≤ room) (hl : 1 ≤ life) {o u : Mac} (ho : grpM o = false) (hu : grpM u = false) (hou : o ≠ u) {X : AB} (h : MvI o u X) (p : Pl) (h1 : 1 ≤ p.n) (h2 : p.n ≤ 4) (now : Int) :
    ∃ out1 X1 X2, (p.tun = false → aFromPort room life X p.n (frB mvAll o) now = (out1, 0, X1)) ∧ (p.tun = true → aFromTunnel room life X 0 p.n (frB mvAll o) now = (out1, 0, X1)) ∧ afind life (X1.at 0).A o now = some p ∧
      aFromPort room life X1 5 (frB o u) now = ((if p.tun = true then ⟨[], [p.n], false⟩ else ⟨[p.n], [], false⟩), 0, X2) ∧ MvI o u X2 := by
  obtain ⟨a1, a2⟩ := h.ok.learn hr (m := o) (.inl rfl) ho p now
  have F1 := aFrame_frB (room := room) (life := life) (s := X.at 0) p (t := mvAll) now ho
  rw [a1] at F1
  have hg : grpM mvAll = true := by rfl
  rw [if_pos hg] at F1
  obtain ⟨A1, hA1⟩ : ∃ A, aput (X.at 0).A ⟨o, p.tun, p.n, now, false⟩ = A := ⟨_, rfl⟩
  have fo : afind life A1 o now = some p := by rw [← hA1]; exact find_aput h.ok.sor hl p now
  rw [hA1] at F1 a2
  have hX1 := h.put a2
  have at1 : (X.put 0 ⟨A1, (X.at 0).ps, (X.at 0).qs⟩).at 0 = ⟨A1, (X.at 0).ps, (X.at 0).qs⟩ := by rw [at_put h.good.len ok0 ok0, if_pos rfl]
  obtain ⟨X1, hX⟩ : ∃ Y, X.put 0 ⟨A1, (X.at 0).ps, (X.at 0).qs⟩ = Y := ⟨_, rfl⟩
  rw [hX] at hX1 at1
  obtain ⟨b1, b2⟩ := hX1.ok.learn hr (m := u) (.inr rfl) hu ⟨false, 5⟩ now
  have F2 := aFrame_frB (room := room) (life := life) (s := X1.at 0) ⟨false, 5⟩ (t := o) now hu
  rw [b1, ho] at F2
  have fo2 : afind life (aput (X1.at 0).A ⟨u, false, 5, now, false⟩) o now = some p := by
    rw [at1]
    exact find_other a2.sor fo hou
  simp only [Bool.false_eq_true, if_false] at F2
  rw [fo2] at F2
  have hgo : aGoes (X1.at 0) ⟨false, 5⟩ (some p) = (if p.tun = true then ⟨[], [p.n], false⟩ else ⟨[p.n], [], false⟩) := by
    unfold aGoes
    simp only
    rw [if_neg]
    rintro (e | ⟨-, e⟩)
    · have := congrArg Pl.n e; simp only at this; omega
    · cases e
  rw [hgo] at F2
  have P2 := aFromPort_at (X := X1) (hX1.bd 5 (by omega) (by omega)) (frB o u) now F2
  simp only at P2
  refine ⟨aGoes (X.at 0) p none, X1, _, fun ht => ?_, fun ht => ?_, by rw [at1]; exact fo, P2, hX1.put b2⟩
  · have hp : p = ⟨false, p.n⟩ := by obtain ⟨a, b⟩ := p; simp only at ht; rw [ht]
    have F1' : aFrame room life (X.at 0) ⟨false, p.n⟩ (frB mvAll o) now = (aGoes (X.at 0) p none, 0, A1) := by rw [← hp, F1]
    have P1 := aFromPort_at (X := X) (h.bd p.n h1 (by omega)) (frB mvAll o) now F1'
    rw [P1]
    simp only
    rw [hX]
  · have hp : p = ⟨true, p.n⟩ := by obtain ⟨a, b⟩ := p; simp only at ht; rw [ht]
    unfold aFromTunnel
    rw [if_neg (by rintro (e | e); exact e ok0; exact e (h.qs p.n h1 (by omega))), ← hp, F1]
    simp only
    rw [hX]
end Go.Proofs.YticebdoiahadoaaDoor