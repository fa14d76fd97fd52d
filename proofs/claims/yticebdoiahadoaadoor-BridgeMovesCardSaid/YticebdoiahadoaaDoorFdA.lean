/- fdb: what a base's operations do to its entries, as a row that rises by MACs (plain). -/
import Derived.Test.YticebdoiahadoaaDoorFdP
namespace Go.Proofs.YticebdoiahadoaaDoor
open Go.RowKit
set_option linter.unusedVariables false
set_option linter.unusedSimpArgs false
abbrev AL := List En
/-- The row rises. -/
def Sor (A : AL) : Prop := A.Pairwise (fun x y => ltM x.mac y.mac = true)
def aget (A : AL) (m : Mac) : Option En := A.find? (fun e => decide (e.mac = m))
def adel (A : AL) (m : Mac) : AL := A.filter (fun e => decide (e.mac ≠ m))
def aput (A : AL) (e : En) : AL := A.filter (fun x => ltM x.mac e.mac) ++ e :: A.filter (fun x => ltM e.mac x.mac)
/-- A is the row of the entries of L. -/
structure Ab (L : FL) (A : AL) : Prop where
  sor : Sor A
  perm : A.Perm (L.map (·.2.2))

theorem Sor.inj {A : AL} (h : Sor A) {x y : En} (hx : x ∈ A) (hy : y ∈ A) (e : x.mac = y.mac) : x = y := by
  induction A with
  | nil => cases hx
  | cons a r ih =>
    obtain ⟨h1, h2⟩ := List.pairwise_cons.1 h
    rcases List.mem_cons.1 hx with h3 | hx2
    · subst h3
      rcases List.mem_cons.1 hy with h4 | hy2
      · exact h4.symm
      · have := h1 y hy2; rw [e, ltM_irrefl] at this; cases this
    · rcases List.mem_cons.1 hy with h3 | hy2
      · subst h3; have := h1 x hx2; rw [e, ltM_irrefl] at this; cases this
      · exact ih h2 hx2 hy2
theorem Sor.eq {A B : AL} (h1 : Sor A) (h2 : Sor B) (hp : A.Perm B) : A = B :=
  hp.eq_of_pairwise (fun a b _ _ h3 h4 => by rw [ltM_asymm h3] at h4; cases h4) h1 h2
theorem Sor.filter {A : AL} (h : Sor A) (q : En → Bool) : Sor (A.filter q) := List.Pairwise.filter q h
theorem Sor.put {A : AL} (h : Sor A) (e : En) : Sor (aput A e) := by
  refine List.pairwise_append.2 ⟨h.filter _, List.pairwise_cons.2 ⟨fun b hb => (List.mem_filter.1 hb).2, h.filter _⟩, ?_⟩
  intro a ha b hb
  have h1 : ltM a.mac e.mac = true := (List.mem_filter.1 ha).2
  rcases List.mem_cons.1 hb with rfl | hb
  · exact h1
  · exact ltM_trans h1 (List.mem_filter.1 hb).2
theorem Sor.nodup {A : AL} (h : Sor A) : (A.map (·.mac)).Nodup := by
  rw [List.Nodup, List.pairwise_map]
  exact List.Pairwise.imp (fun h1 e => by rw [e, ltM_irrefl] at h1; cases h1) h
theorem ltM_ne {x y : Mac} (h : ltM x y = true) : x ≠ y := fun e => by rw [e, ltM_irrefl] at h; cases h
theorem aput_perm (A : AL) (e : En) : (aput A e).Perm (e :: adel A e.mac) := by
  refine List.perm_middle.trans (List.Perm.cons e ?_)
  have h := List.filter_append_perm (fun x : En => ltM x.mac e.mac) (adel A e.mac)
  have e1 : (adel A e.mac).filter (fun x : En => ltM x.mac e.mac) = A.filter (fun x => ltM x.mac e.mac) := by
    unfold adel
    rw [List.filter_filter]
    apply List.filter_congr
    intro x _
    cases h1 : ltM x.mac e.mac with
    | false => rfl
    | true => simp [ltM_ne h1]
  have e2 : (adel A e.mac).filter (fun x : En => !ltM x.mac e.mac) = A.filter (fun x => ltM e.mac x.mac) := by
    unfold adel
    rw [List.filter_filter]
    apply List.filter_congr
    intro x _
    by_cases hx : x.mac = e.mac
    · simp [hx, ltM_irrefl]
    · cases h1 : ltM x.mac e.mac with
      | true => simp [ltM_asymm h1]
      | false => simp [ltM_total h1 hx, hx]
  rw [e1, e2] at h
  exact h
theorem mem_adel {A : AL} {m : Mac} {x : En} : x ∈ adel A m ↔ x ∈ A ∧ x.mac ≠ m := by simp [adel]
theorem mem_aput {A : AL} {e x : En} : x ∈ aput A e ↔ x = e ∨ (x ∈ A ∧ x.mac ≠ e.mac) := by
  rw [(aput_perm A e).mem_iff, List.mem_cons, mem_adel]
theorem aget_some {A : AL} (h : Sor A) {m : Mac} {e : En} : aget A m = some e ↔ e ∈ A ∧ e.mac = m := by
  unfold aget
  constructor
  · intro hf
    exact ⟨List.mem_of_find?_eq_some hf, by simpa using List.find?_some hf⟩
  · rintro ⟨h1, h2⟩
    cases hf : A.find? (fun e => decide (e.mac = m)) with
    | none =>
      have := List.find?_eq_none.1 hf e h1
      simp [h2] at this
    | some y =>
      have h3 : y.mac = m := by simpa using List.find?_some hf
      rw [h.inj (List.mem_of_find?_eq_some hf) h1 (by rw [h3, h2])]
theorem aget_none {A : AL} {m : Mac} : aget A m = none ↔ ∀ x ∈ A, x.mac ≠ m := by simp [aget, List.find?_eq_none]

theorem Ab.len {L : FL} {A : AL} (h : Ab L A) : A.length = L.length := by have := h.perm.length_eq; simpa using this
theorem Ab.mem {L : FL} {A : AL} (h : Ab L A) {x : En} : x ∈ A ↔ ∃ p ∈ L, p.2.2 = x := by rw [h.perm.mem_iff, List.mem_map]
theorem Ab.uniq {L : FL} {A B : AL} (h : Ab L A) (k : Ab L B) : A = B := h.sor.eq k.sor (h.perm.trans k.perm.symm)
theorem Ab.nil : Ab [] [] := ⟨List.Pairwise.nil, List.Perm.refl _⟩
theorem Ab.get {L : FL} {A : AL} (h : Ab L A) (hk : ∀ p ∈ L, p.2.2.mac = p.1) (m : Mac) : aget A m = (mget L m).map (·.2) := by
  cases hg : mget L m with
  | none =>
    rw [Option.map_none, aget_none]
    intro x hx
    obtain ⟨p, hp, rfl⟩ := h.mem.1 hx
    rw [hk p hp]
    exact mget_none.1 hg p hp
  | some q =>
    have h1 := mget_some hg
    exact (aget_some h.sor).2 ⟨h.mem.2 ⟨_, h1, rfl⟩, hk _ h1⟩
theorem Ab.filter {L : FL} {A : AL} (h : Ab L A) (q : En → Bool) : Ab (L.filter fun p => q p.2.2) (A.filter q) := by
  refine ⟨h.sor.filter q, ?_⟩
  have h1 := h.perm.filter q
  rw [List.filter_map] at h1
  exact h1
theorem Ab.del {L : FL} {A : AL} (h : Ab L A) (hk : ∀ p ∈ L, p.2.2.mac = p.1) (m : Mac) : Ab (mdel L m) (adel A m) := by
  have e : mdel L m = L.filter fun p => decide (p.2.2.mac ≠ m) := by
    unfold mdel
    apply List.filter_congr
    intro p hp
    rw [hk p hp]
  rw [e]
  exact h.filter (fun e => decide (e.mac ≠ m))
theorem mput_perm {L : FL} (nd : (L.map (·.1)).Nodup) (k : Mac) (v : Nat × En) : (mput L k v).Perm ((k, v) :: mdel L k) := by
  cases hg : mget L k with
  | none =>
    have e1 : mput L k v = L ++ [(k, v)] := by unfold mput; rw [hg]; rfl
    have e2 : mdel L k = L := List.filter_eq_self.2 (fun p hp => by simpa using mget_none.1 hg p hp)
    rw [e1, e2]
    exact List.perm_append_singleton _ _
  | some u =>
    have e1 : mput L k v = L.map (fun p => if p.1 = k then (k, v) else p) := by unfold mput; rw [hg]; rfl
    rw [e1]
    have h1 := (perm_mdel nd (mget_some hg)).map (fun p => if p.1 = k then (k, v) else p)
    refine h1.trans ?_
    rw [List.map_cons, if_pos rfl]
    have e3 : (mdel L k).map (fun p => if p.1 = k then (k, v) else p) = mdel L k := by
      conv => rhs; rw [← List.map_id (mdel L k)]
      apply List.map_congr_left
      intro p hp
      rw [if_neg (mem_mdel.1 hp).2]; rfl
    rw [e3]
theorem Ab.put {L : FL} {A : AL} (h : Ab L A) (hk : ∀ p ∈ L, p.2.2.mac = p.1) (nd : (L.map (·.1)).Nodup) (e : En) (b : Nat) : Ab (mput L e.mac (b, e)) (aput A e) := by
  refine ⟨h.sor.put e, ?_⟩
  refine (aput_perm A e).trans ?_
  refine (List.Perm.cons e (h.del hk e.mac).perm).trans ?_
  exact ((mput_perm nd e.mac (b, e)).map (fun p : Mac × Nat × En => p.2.2)).symm

/-- The one that was heard the longest time ago, of those that are not static. -/
def aleast : AL → Option En
  | [] => none
  | x :: l => if x.st = true then aleast l else match aleast l with
    | none => some x
    | some y => if y.at_ < x.at_ then some y else some x
theorem aleast_none {A : AL} : aleast A = none ↔ ∀ x ∈ A, x.st = true := by
  induction A with
  | nil => simp [aleast]
  | cons x l ih =>
    unfold aleast
    by_cases hx : x.st = true
    · rw [if_pos hx, ih]; simp [hx]
    · rw [if_neg hx]
      constructor
      · intro h
        cases hl : aleast l with
        | none => rw [hl] at h; cases h
        | some y => rw [hl] at h; simp only at h; split at h <;> cases h
      · intro h; exact absurd (h x (by simp)) hx
theorem aleast_some {A : AL} (hs : Sor A) {p : En} (h : aleast A = some p) : p ∈ A ∧ p.st = false ∧ ∀ q ∈ A, q.st = false → ¬ cmpA q p < 0 := by
  induction A generalizing p with
  | nil => cases h
  | cons x l ih =>
    obtain ⟨h1, h2⟩ := List.pairwise_cons.1 hs
    unfold aleast at h
    by_cases hx : x.st = true
    · rw [if_pos hx] at h
      obtain ⟨i1, i2, i3⟩ := ih h2 h
      refine ⟨List.mem_cons_of_mem _ i1, i2, fun q hq hqs => ?_⟩
      rcases List.mem_cons.1 hq with rfl | hq
      · rw [hx] at hqs; cases hqs
      · exact i3 q hq hqs
    · rw [if_neg hx] at h
      have hx' : x.st = false := by simpa using hx
      cases hl : aleast l with
      | none =>
        rw [hl] at h
        simp only [Option.some.injEq] at h
        subst h
        refine ⟨by simp, hx', fun q hq hqs => ?_⟩
        rcases List.mem_cons.1 hq with rfl | hq
        · exact cmpA_irrefl _
        · rw [aleast_none.1 hl q hq] at hqs; cases hqs
      | some y =>
        rw [hl] at h
        simp only at h
        obtain ⟨i1, i2, i3⟩ := ih h2 hl
        split at h
        · rename_i hlt
          simp only [Option.some.injEq] at h
          subst h
          refine ⟨List.mem_cons_of_mem _ i1, i2, fun q hq hqs => ?_⟩
          rcases List.mem_cons.1 hq with rfl | hq
          · rw [cmpA_neg]; intro h3
            rcases h3 with h3 | ⟨h3, -⟩ <;> omega
          · exact i3 q hq hqs
        · rename_i hlt
          simp only [Option.some.injEq] at h
          subst h
          refine ⟨by simp, hx', fun q hq hqs => ?_⟩
          rcases List.mem_cons.1 hq with rfl | hq
          · exact cmpA_irrefl _
          · have h4 := i3 q hq hqs
            rw [cmpA_neg] at h4 ⊢
            intro h5
            rcases h5 with h5 | ⟨h5, h6⟩
            · exact h4 (.inl (by omega))
            · rw [ltM_asymm (h1 q hq)] at h6; cases h6
theorem cmpA_eq {A : AL} (hs : Sor A) {p q : En} (hp : p ∈ A) (hq : q ∈ A) (h1 : ¬ cmpA p q < 0) (h2 : ¬ cmpA q p < 0) : p = q := by
  rw [cmpA_neg] at h1 h2
  have h3 : p.at_ = q.at_ := by
    have : ¬ p.at_ < q.at_ := fun h => h1 (.inl h)
    have : ¬ q.at_ < p.at_ := fun h => h2 (.inl h)
    omega
  apply hs.inj hp hq
  apply Classical.byContradiction
  intro hne
  cases h4 : ltM p.mac q.mac with
  | true => exact h1 (.inr ⟨h3, h4⟩)
  | false => exact h2 (.inr ⟨h3.symm, ltM_total h4 hne⟩)
theorem aleast_of {A : AL} (hs : Sor A) {p : En} (hp : p ∈ A) (hps : p.st = false) (hl : ∀ q ∈ A, q.st = false → ¬ cmpA q p < 0) : aleast A = some p := by
  cases h : aleast A with
  | none => rw [aleast_none.1 h p hp] at hps; cases hps
  | some p' =>
    obtain ⟨h1, h2, h3⟩ := aleast_some hs h
    rw [cmpA_eq hs hp h1 (h3 p hp hps) (hl p' h1 h2)]
def aadd (room : Int) (A : AL) (e : En) : Int × AL :=
  if (A.length : Int) < room then (0, aput A e) else match aleast A with
    | none => (5, A)
    | some p => (0, aput (adel A p.mac) e)
theorem AddF.ab {room : Int} {L : FL} {e : En} {eb : Nat} {c : Int} {L' : FL} (h : AddF room L e eb c L') {A : AL} (ha : Ab L A) (hk : ∀ p ∈ L, p.2.2.mac = p.1) (nd : (L.map (·.1)).Nodup) :
    c = (aadd room A e).1 ∧ Ab L' (aadd room A e).2 := by
  have hl := ha.len
  unfold aadd
  rcases h with ⟨h1, rfl, rfl⟩ | ⟨h1, h2, rfl, rfl⟩ | ⟨h1, rfl, p, hp, hps, hpl, rfl⟩
  · rw [if_pos (by omega)]
    exact ⟨rfl, ha.put hk nd e eb⟩
  · rw [if_neg (by omega), aleast_none.2 (fun x hx => by obtain ⟨p, hp, rfl⟩ := ha.mem.1 hx; exact h2 p hp)]
    exact ⟨rfl, ha⟩
  · rw [if_neg (by omega), aleast_of ha.sor (p := p.2.2) (ha.mem.2 ⟨p, hp, rfl⟩) hps (fun q hq hqs => by obtain ⟨p', hp', rfl⟩ := ha.mem.1 hq; exact hpl p' hp' hqs)]
    refine ⟨rfl, ?_⟩
    show Ab _ (aput (adel A p.2.2.mac) e)
    rw [hk p hp]
    exact (ha.del hk p.1).put (fun q hq => hk q (mem_mdel.1 hq).1) (mdel_nodup nd _) e eb
/-- The blocks of the new entries: those of the old ones, or new. -/
def Nb (w : World) (L L' : FL) : Prop := ∀ p ∈ L', (∃ q ∈ L, q.2.1 = p.2.1) ∨ w.heap.size ≤ p.2.1
theorem Nb.sub {w : World} {L L' : FL} (h : ∀ p ∈ L', p ∈ L) : Nb w L L' := fun p hp => .inl ⟨p, h p hp, rfl⟩
theorem Nb.put {w : World} {L L' : FL} (h : Nb w L L') (k : Mac) (b : Nat) (e : En) (hb : (∃ q ∈ L, q.2.1 = b) ∨ w.heap.size ≤ b) : Nb w L (mput L' k (b, e)) := by
  intro p hp
  rcases mem_mput.1 hp with rfl | ⟨hp, _⟩
  · exact hb
  · exact h p hp
theorem AddF.nb {w : World} {room : Int} {L : FL} {e : En} {c : Int} {L' : FL} (h : AddF room L e w.heap.size c L') : Nb w L L' := by
  rcases h with ⟨h1, rfl, rfl⟩ | ⟨h1, h2, rfl, rfl⟩ | ⟨h1, rfl, p, hp, hps, hpl, rfl⟩
  · exact (Nb.sub fun _ h => h).put _ _ _ (.inr (Nat.le_refl _))
  · exact Nb.sub fun _ h => h
  · exact (Nb.sub fun _ h => (mem_mdel.1 h).1).put _ _ _ (.inr (Nat.le_refl _))

def alearn (room : Int) (A : AL) (m : Mac) (p : Pl) (now : Int) : Bool × Int × AL :=
  if grpM m = true then (false, 1, A) else match aget A m with
    | none => (false, aadd room A ⟨m, p.tun, p.n, now, false⟩)
    | some e => (!decide (e.pl = p), 0, if e.st = true then A else aput A ⟨m, p.tun, p.n, now, false⟩)
def astatic (room : Int) (A : AL) (m : Mac) (p : Pl) : Int × AL :=
  if grpM m = true then (1, A) else match aget A m with
    | none => aadd room A ⟨m, p.tun, p.n, 0, true⟩
    | some _ => (0, aput A ⟨m, p.tun, p.n, 0, true⟩)
def afind (life : Int) (A : AL) (m : Mac) (now : Int) : Option Pl := (aget A m).bind fun e => if oldE life e now = true then none else some e.pl
def aforget (A : AL) (p : Pl) : AL := A.filter fun e => !decide (e.pl = p)
def atick (life : Int) (A : AL) (now : Int) : AL := A.filter fun e => !oldE life e now
theorem Ab.find {L : FL} {A : AL} (h : Ab L A) (hk : ∀ p ∈ L, p.2.2.mac = p.1) (life : Int) (m : Mac) (now : Int) : findF life L m now = afind life A m now := by
  unfold findF afind
  rw [h.get hk]
  cases mget L m <;> rfl
end Go.Proofs.YticebdoiahadoaaDoor