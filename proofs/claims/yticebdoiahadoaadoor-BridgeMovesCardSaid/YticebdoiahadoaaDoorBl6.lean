/- bridge laws: what each base holds lies where its segment says. -/
import Derived.Test.YticebdoiahadoaaDoorBl5
namespace Go.Proofs.YticebdoiahadoaaDoor
open Go.RowKit
set_option linter.unusedVariables false
set_option linter.unusedSimpArgs false
def okEn (bd : List (Int × Int)) (qs : List Int) (n : Int) (e : En) : Prop := e.st = false ∧ (e.tun = true → e.n ∈ qs) ∧ (e.tun = false → mget bd e.n = some n)
def Stl (X : AB) : Prop := ∀ n, okSeg n → ∀ e ∈ (X.at n).A, okEn X.bd (X.at n).qs n e
theorem Stl.new : Stl AB.new := fun n hn e he => by rw [new_at hn] at he; cases he
theorem aput_mem {A : AL} {e x : En} (h : x ∈ aput A e) : x = e ∨ x ∈ A := by
  unfold aput at h
  rcases List.mem_append.1 h with h | h
  · exact .inr (List.mem_filter.1 h).1
  · rcases List.mem_cons.1 h with h | h
    · exact .inl h
    · exact .inr (List.mem_filter.1 h).1
theorem mem_aadd {room : Int} {A : AL} {e x : En} (h : x ∈ (aadd room A e).2) : x = e ∨ x ∈ A := by
  unfold aadd at h
  split at h
  · exact aput_mem h
  · split at h
    · exact .inr h
    · rcases aput_mem h with h | h
      · exact .inl h
      · exact .inr (List.mem_filter.1 h).1
theorem mem_alearn {room : Int} {A : AL} {m : Mac} {p : Pl} {now : Int} {x : En} (h : x ∈ (alearn room A m p now).2.2) : x = ⟨m, p.tun, p.n, now, false⟩ ∨ x ∈ A := by
  unfold alearn at h
  split at h
  · exact .inr h
  · split at h
    · exact mem_aadd h
    · simp only at h
      split at h
      · exact .inr h
      · exact aput_mem h
theorem mem_aforget {A : AL} {p : Pl} {x : En} (h : x ∈ aforget A p) : x ∈ A ∧ ¬ x.pl = p := by
  unfold aforget at h
  have := List.mem_filter.1 h
  exact ⟨this.1, by simpa using this.2⟩
theorem Stl.unbind {X : AB} (hg : Good X) (h : Stl X) (p : Int) : Stl (aUnbind X p).2 := by
  unfold aUnbind
  cases hm : mget X.bd p with
  | none => exact h
  | some i =>
    have hi := (hg.bk p i hm).2
    intro m hmm e he
    simp only at he ⊢
    have ea : (⟨mdel X.bd p, X.sg.set i.toNat (unbindS (X.at i) p)⟩ : AB).at m = if m = i then unbindS (X.at i) p else X.at m := at_put hg.len hi hmm _
    rw [ea] at he ⊢
    split at he
    · rename_i hmi
      subst hmi
      rw [if_pos rfl]
      obtain ⟨h1, h2⟩ := mem_aforget he
      obtain ⟨a1, a2, a3⟩ := h m hmm e h1
      refine ⟨a1, a2, fun ht => ?_⟩
      have hne : e.n ≠ p := fun hn => h2 (by unfold En.pl; rw [ht, hn])
      rw [mget_mdel hg.nd, if_neg hne]
      exact a3 ht
    · rename_i hmi
      rw [if_neg hmi]
      obtain ⟨a1, a2, a3⟩ := h m hmm e he
      refine ⟨a1, a2, fun ht => ?_⟩
      have h4 := a3 ht
      have hne : e.n ≠ p := fun hn => by rw [hn, hm] at h4; cases h4; exact hmi rfl
      rw [mget_mdel hg.nd, if_neg hne]
      exact h4
theorem Stl.bind {X : AB} (hg : Good X) (h : Stl X) (p t : Int) : Stl (aBind X p t).2 := by
  unfold aBind
  split
  · exact h
  split
  · exact h
  split
  · exact h
  rename_i h1 h2 h3
  have ht : okSeg t := Classical.byContradiction fun hh => h1 (.inr hh)
  have hY := hg.unbind p
  have sY := Stl.unbind hg h p
  have nY := unbind_none hg p
  generalize (aUnbind X p).2 = Y at hY sY nY
  intro m hmm e he
  simp only at he ⊢
  have ea : (⟨mput Y.bd p t, Y.sg.set t.toNat (bindS (Y.at t) p)⟩ : AB).at m = if m = t then bindS (Y.at t) p else Y.at m := at_put hY.len ht hmm _
  rw [ea] at he ⊢
  have key : ∀ e ∈ (Y.at m).A, okEn (mput Y.bd p t) (Y.at m).qs m e := by
    intro e he
    obtain ⟨a1, a2, a3⟩ := sY m hmm e he
    refine ⟨a1, a2, fun hx => ?_⟩
    have h4 := a3 hx
    have hne : e.n ≠ p := fun hn => by rw [hn, nY] at h4; cases h4
    rw [mget_mput hY.nd, if_neg hne]
    exact h4
  split at he
  · rename_i hmt
    subst hmt
    rw [if_pos rfl]
    exact key e he
  · rename_i hmt
    rw [if_neg hmt]
    exact key e he
/-- One segment alone turns. -/
theorem Stl.put {X : AB} (hg : Good X) (h : Stl X) {n : Int} (hn : okSeg n) {s : AS} (hs : ∀ e ∈ s.A, okEn X.bd s.qs n e) : Stl (X.put n s) := by
  intro m hm e he
  rw [at_put hg.len hn hm] at he ⊢
  split at he
  · rename_i hmn
    subst hmn
    rw [if_pos rfl]
    exact hs e he
  · rename_i hmn
    rw [if_neg hmn]
    exact h m hm e he
theorem Stl.peer {X : AB} (hg : Good X) (h : Stl X) (n t : Int) : Stl (aPeer X n t).2 := by
  unfold aPeer
  split
  · exact h
  split
  · exact h
  split
  · exact h
  rename_i h1 h2 h3
  have hn : okSeg n := Classical.byContradiction fun hh => h1 (.inr hh)
  refine Stl.put hg h hn (fun e he => ?_)
  obtain ⟨a1, a2, a3⟩ := h n hn e he
  exact ⟨a1, fun hx => mem_addI.2 (.inr (a2 hx)), a3⟩
theorem Stl.unpeer {X : AB} (hg : Good X) (h : Stl X) (n t : Int) : Stl (aUnpeer X n t).2 := by
  unfold aUnpeer
  split
  · exact h
  rename_i h1
  have hn : okSeg n := Classical.byContradiction fun hh => h1 (.inl hh)
  refine Stl.put hg h hn (fun e he => ?_)
  obtain ⟨h4, h5⟩ := mem_aforget he
  obtain ⟨a1, a2, a3⟩ := h n hn e h4
  refine ⟨a1, fun hx => mem_delI.2 ⟨a2 hx, fun hn => h5 (by unfold En.pl; rw [hx, hn])⟩, a3⟩
theorem Stl.frame {X : AB} (hg : Good X) (h : Stl X) {n : Int} (hn : okSeg n) {room life : Int} {fr : Pl} {b : List UInt8} {now : Int} (h1 : fr.tun = true → fr.n ∈ (X.at n).qs) (h2 : fr.tun = false → mget X.bd fr.n = some n) :
    Stl (X.put n ⟨(aFrame room life (X.at n) fr b now).2.2, (X.at n).ps, (X.at n).qs⟩) := by
  refine Stl.put hg h hn (fun e he => ?_)
  simp only at he ⊢
  have hc : e ∈ (X.at n).A ∨ ∃ m, e = ⟨m, fr.tun, fr.n, now, false⟩ := by
    unfold aFrame at he
    split at he
    · exact .inl he
    split at he
    · exact .inl he
    split at he
    · exact .inl he
    rcases mem_alearn he with h | h
    · exact .inr ⟨_, h⟩
    · exact .inl h
  rcases hc with hc | ⟨m, rfl⟩
  · exact h n hn e hc
  · exact ⟨rfl, h1, h2⟩
theorem Stl.fromPort {X : AB} (hg : Good X) (h : Stl X) (room life : Int) (p : Int) (b : List UInt8) (now : Int) : Stl (aFromPort room life X p b now).2.2 := by
  unfold aFromPort
  cases hm : mget X.bd p with
  | none => exact h
  | some i => exact Stl.frame hg h (hg.bk p i hm).2 (fun hx => by cases hx) (fun _ => hm)
theorem Stl.fromTunnel {X : AB} (hg : Good X) (h : Stl X) (room life : Int) (n t : Int) (b : List UInt8) (now : Int) : Stl (aFromTunnel room life X n t b now).2.2 := by
  unfold aFromTunnel
  split
  · exact h
  rename_i h1
  have hn : okSeg n := Classical.byContradiction fun hh => h1 (.inl hh)
  have ht : t ∈ (X.at n).qs := Classical.byContradiction fun hh => h1 (.inr hh)
  exact Stl.frame hg h hn (fun _ => ht) (fun hx => by cases hx)
theorem Stl.does {X : AB} (hg : Good X) (h : Stl X) (room life : Int) (x : St16) (now : Int) : Stl (aDoes room life X x now).2.2 := by
  unfold aDoes
  split; · exact Stl.bind hg h _ _
  split; · exact Stl.unbind hg h _
  split; · exact Stl.peer hg h _ _
  split; · exact Stl.unpeer hg h _ _
  split
  · split
    · exact Stl.fromPort hg h _ _ _ _ _
    · exact Stl.fromPort hg h _ _ _ _ _
  split
  · split
    · exact Stl.fromTunnel hg h _ _ _ _ _ _
    · exact Stl.fromTunnel hg h _ _ _ _ _ _
  · exact h
theorem ris_one (x : Int) : Ris [x] := List.pairwise_singleton _ _
theorem aGoes_stays {s : AS} {fr : Pl} {o : Option Pl} {bd : List (Int × Int)} {n : Int} (hps : ∀ p ∈ s.ps, mget bd p = some n) (rp : Ris s.ps) (rq : Ris s.qs) (ho : ∀ p, o = some p → (p.tun = true → p.n ∈ s.qs) ∧ (p.tun = false → mget bd p.n = some n)) :
    Ris (aGoes s fr o).ps ∧ (∀ p ∈ (aGoes s fr o).ps, mget bd p = some n ∧ (fr.tun = false → p ≠ fr.n)) ∧ Ris (aGoes s fr o).qs ∧ (∀ t ∈ (aGoes s fr o).qs, t ∈ s.qs ∧ fr.tun = false) ∧ ((aGoes s fr o).fl = false → (aGoes s fr o).ps.length + (aGoes s fr o).qs.length ≤ 1) := by
  unfold aGoes
  cases o with
  | none =>
    cases hf : fr.tun with
    | true => exact ⟨by simpa using rp, (fun p hp => ⟨hps p (by simpa using hp), fun h => by cases h⟩), List.Pairwise.nil, (fun t ht => by simp at ht), fun h => by cases h⟩
    | false => exact ⟨by simpa using rp.del fr.n, fun p hp => by
        have h1 := mem_delI.1 (show p ∈ delI s.ps fr.n by simpa using hp)
        exact ⟨hps p h1.1, fun _ => h1.2⟩, by simpa using rq, (fun t ht => ⟨by simpa using ht, rfl⟩), fun h => by cases h⟩
  | some p =>
    obtain ⟨h1, h2⟩ := ho p rfl
    simp only
    split
    · exact ⟨List.Pairwise.nil, (fun p hp => by cases hp), List.Pairwise.nil, (fun t ht => by cases ht), fun _ => by simp [noOut]⟩
    · rename_i hne
      split
      · rename_i ht
        refine ⟨List.Pairwise.nil, fun p hp => (by cases hp), ris_one _, fun t htt => ?_, fun _ => by simp⟩
        simp only [List.mem_singleton] at htt
        subst htt
        refine ⟨h1 ht, ?_⟩
        cases hf : fr.tun with
        | false => rfl
        | true => exact absurd (.inr ⟨ht, hf⟩) hne
      · rename_i ht
        have htf : p.tun = false := by cases h : p.tun with | false => rfl | true => exact absurd h ht
        refine ⟨ris_one _, fun q hq => ?_, List.Pairwise.nil, fun t htt => (by cases htt), fun _ => by simp⟩
        simp only [List.mem_singleton] at hq
        subst hq
        refine ⟨h2 htf, fun hf e => hne (.inl ?_)⟩
        obtain ⟨a, b⟩ := p
        obtain ⟨c, d⟩ := fr
        simp only at htf hf e
        rw [htf, hf, e]
theorem aget_mem {A : AL} {m : Mac} {e : En} (h : aget A m = some e) : e ∈ A := List.mem_of_find?_eq_some h
/-- What a step's frame says: where it goes. -/
def StS (x : St16) (r : AOut × Int × AB) : Prop :=
  okSeg r.2.1 ∧ Ris r.1.ps ∧ (∀ p ∈ r.1.ps, mget r.2.2.bd p = some r.2.1 ∧ (x.kind ≤ 7 → p ≠ x.n)) ∧ Ris r.1.qs ∧ (∀ t ∈ r.1.qs, t ∈ (r.2.2.at r.2.1).qs ∧ x.kind ≤ 7) ∧ (r.1.fl = false → r.1.ps.length + r.1.qs.length ≤ 1)
theorem frame_stays {X : AB} (hg : Good X) (hs : Stl X) {n : Int} (hn : okSeg n) {room life : Int} {fr : Pl} {b : List UInt8} {now : Int} (h1 : fr.tun = true → fr.n ∈ (X.at n).qs) (h2 : fr.tun = false → mget X.bd fr.n = some n) {f : AOut × Int × AL} (hf : aFrame room life (X.at n) fr b now = f) (h0 : f.2.1 = 0) :
    Ris f.1.ps ∧ (∀ p ∈ f.1.ps, mget X.bd p = some n ∧ (fr.tun = false → p ≠ fr.n)) ∧ Ris f.1.qs ∧ (∀ t ∈ f.1.qs, t ∈ (X.at n).qs ∧ fr.tun = false) ∧ (f.1.fl = false → f.1.ps.length + f.1.qs.length ≤ 1) := by
  have hst := Stl.frame hg hs hn (room := room) (life := life) (b := b) (now := now) h1 h2
  have hA : ∀ e ∈ f.2.2, okEn X.bd (X.at n).qs n e := by
    intro e he
    have := hst n hn e (by rw [at_put hg.len hn hn, if_pos rfl, hf]; exact he)
    rw [at_put hg.len hn hn, if_pos rfl] at this
    exact this
  unfold aFrame at hf
  split at hf
  · subst hf; cases h0
  split at hf
  · subst hf; cases h0
  split at hf
  · subst hf; cases h0
  subst hf
  refine aGoes_stays (fun p hp => (hg.mem n hn p).1 hp) (hg.rp n hn) (hg.rq n hn) (fun p hp => ?_)
  split at hp
  · cases hp
  · unfold afind at hp
    cases ha : aget (alearn room (X.at n).A (macOf b 6) fr now).2.2 (macOf b 0) with
    | none => rw [ha] at hp; cases hp
    | some e =>
      rw [ha] at hp
      simp only [Option.bind_some] at hp
      split at hp
      · cases hp
      · cases hp
        obtain ⟨-, a2, a3⟩ := hA e (aget_mem ha)
        exact ⟨a2, a3⟩
theorem does_stays {room life : Int} {X : AB} (hg : Good X) (hst : Stl X) {x : St16} {now : Int} {r : AOut × Int × AB} (hr : aDoes room life X x now = r) : r.2.1 = -1 ∨ StS x r := by
  unfold aDoes at hr
  split at hr; · subst hr; exact .inl rfl
  split at hr; · subst hr; exact .inl rfl
  split at hr; · subst hr; exact .inl rfl
  split at hr; · subst hr; exact .inl rfl
  split at hr
  · rename_i hk
    have hk7 : x.kind ≤ 7 := by omega
    split at hr
    · rename_i hc
      right
      subst hr
      cases hm : mget X.bd x.n with
      | none => unfold aFromPort at hc; rw [hm] at hc; cases hc
      | some i =>
        have hi := (hg.bk x.n i hm).2
        obtain ⟨f, hf⟩ : ∃ f, aFrame room life (X.at i) ⟨false, x.n⟩ x.b now = f := ⟨_, rfl⟩
        have he : aFromPort room life X x.n x.b now = (f.1, f.2.1, X.put i ⟨f.2.2, (X.at i).ps, (X.at i).qs⟩) := by unfold aFromPort; rw [hm]; simp only [hf]
        rw [he] at hc ⊢
        obtain ⟨a1, a2, a3, a4, a5⟩ := frame_stays hg hst hi (fun h => by cases h) (fun _ => hm) hf hc
        refine ⟨hi, a1, fun p hp => ⟨(a2 p hp).1, fun _ => (a2 p hp).2 rfl⟩, a3, fun t ht => ⟨?_, hk7⟩, a5⟩
        simp only [Option.getD_some]
        rw [at_put hg.len hi hi, if_pos rfl]
        exact (a4 t ht).1
    · subst hr; exact .inl rfl
  split at hr
  · rename_i hk
    split at hr
    · rename_i hc
      right
      subst hr
      by_cases hi : ¬ okSeg x.s ∨ ¬ x.n ∈ (X.at x.s).qs
      · unfold aFromTunnel at hc; rw [if_pos hi] at hc; cases hc
      · have hs : okSeg x.s := Classical.byContradiction fun h => hi (.inl h)
        have hq : x.n ∈ (X.at x.s).qs := Classical.byContradiction fun h => hi (.inr h)
        obtain ⟨f, hf⟩ : ∃ f, aFrame room life (X.at x.s) ⟨true, x.n⟩ x.b now = f := ⟨_, rfl⟩
        have he : aFromTunnel room life X x.s x.n x.b now = (f.1, f.2.1, X.put x.s ⟨f.2.2, (X.at x.s).ps, (X.at x.s).qs⟩) := by unfold aFromTunnel; rw [if_neg hi]; simp only [hf]
        rw [he] at hc ⊢
        obtain ⟨a1, a2, a3, a4, a5⟩ := frame_stays hg hst hs (fun _ => hq) (fun h => by cases h) hf hc
        exact ⟨hs, a1, fun p hp => ⟨(a2 p hp).1, fun h => by omega⟩, a3, (fun t ht => by have := (a4 t ht).2; cases this), a5⟩
    · subst hr; exact .inl rfl
  · subst hr; exact .inl rfl
end Go.Proofs.YticebdoiahadoaaDoor