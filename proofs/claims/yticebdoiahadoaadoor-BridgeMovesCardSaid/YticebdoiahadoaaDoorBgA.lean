/- bridge: what its operations do, plain. -/
import Derived.Test.YticebdoiahadoaaDoorBg3
import Derived.Test.YticebdoiahadoaaDoorFd24
namespace Go.Proofs.YticebdoiahadoaaDoor
open Go.RowKit
set_option linter.unusedVariables false
set_option linter.unusedSimpArgs false
/-- A segment: its base's row, its ports, its peers. -/
structure AS where
  A : AL
  ps : List Int
  qs : List Int
deriving Inhabited
/-- A bridge: the bound ports, the segments. -/
structure AB where
  bd : List (Int × Int)
  sg : List AS
def AB.at (X : AB) (n : Int) : AS := X.sg.getD n.toNat default
def AB.put (X : AB) (n : Int) (s : AS) : AB := ⟨X.bd, X.sg.set n.toNat s⟩
def okSeg (n : Int) : Prop := 0 ≤ n ∧ n < 8
instance (n : Int) : Decidable (okSeg n) := inferInstanceAs (Decidable (_ ∧ _))
theorem at_put {X : AB} (hl : X.sg.length = 8) {n m : Int} (hn : okSeg n) (hm : okSeg m) (s : AS) : (X.put n s).at m = if m = n then s else X.at m := by
  obtain ⟨h1, h2⟩ := hn
  obtain ⟨h3, h4⟩ := hm
  unfold AB.at AB.put
  rw [List.getD_eq_getElem?_getD, List.getD_eq_getElem?_getD, List.getElem?_set]
  by_cases h : m = n
  · subst h
    rw [if_pos rfl, if_pos rfl, if_pos (by omega)]; rfl
  · rw [if_neg h, if_neg (by omega)]
theorem at_some {X : AB} (hl : X.sg.length = 8) {n : Int} (hn : okSeg n) : X.sg[n.toNat]? = some (X.at n) := by
  obtain ⟨h1, h2⟩ := hn
  unfold AB.at
  rw [List.getD_eq_getElem?_getD, List.getElem?_eq_getElem (by omega)]; rfl

def unbindS (s : AS) (p : Int) : AS := ⟨aforget s.A ⟨false, p⟩, delI s.ps p, s.qs⟩
def aUnbind (X : AB) (p : Int) : Int × AB := match mget X.bd p with
  | none => (6, X)
  | some i => (0, ⟨mdel X.bd p, X.sg.set i.toNat (unbindS (X.at i) p)⟩)
def bindS (s : AS) (p : Int) : AS := ⟨s.A, addI s.ps p, s.qs⟩
def aBind (X : AB) (p t : Int) : Int × AB :=
  if p < 0 ∨ ¬ okSeg t then (1, X)
  else if mget X.bd p = some t then (0, X)
  else if mget X.bd p = none ∧ 16 ≤ X.bd.length then (5, X)
  else (0, ⟨mput (aUnbind X p).2.bd p t, (aUnbind X p).2.sg.set t.toNat (bindS ((aUnbind X p).2.at t) p)⟩)
def aPeer (X : AB) (n t : Int) : Int × AB :=
  if t < 0 ∨ ¬ okSeg n then (1, X)
  else if t ∈ (X.at n).qs then (0, X)
  else if 8 ≤ (X.at n).qs.length then (5, X)
  else (0, X.put n ⟨(X.at n).A, (X.at n).ps, addI (X.at n).qs t⟩)
def aUnpeer (X : AB) (n t : Int) : Int × AB :=
  if ¬ okSeg n ∨ ¬ t ∈ (X.at n).qs then (6, X)
  else (0, X.put n ⟨aforget (X.at n).A ⟨true, t⟩, (X.at n).ps, delI (X.at n).qs t⟩)
/-- Where a frame goes. -/
structure AOut where
  ps : List Int
  qs : List Int
  fl : Bool
deriving DecidableEq
def noOut : AOut := ⟨[], [], false⟩
def macOf (b : List UInt8) (o : Nat) : Mac := ⟨b.getD o 0, b.getD (o + 1) 0, b.getD (o + 2) 0, b.getD (o + 3) 0, b.getD (o + 4) 0, b.getD (o + 5) 0⟩
/-- Where it goes, when it is known where whom is. -/
def aGoes (s : AS) (fr : Pl) (o : Option Pl) : AOut := match o with
  | none => ⟨if fr.tun = true then s.ps else delI s.ps fr.n, if fr.tun = true then [] else s.qs, true⟩
  | some p => if p = fr ∨ (p.tun = true ∧ fr.tun = true) then noOut else if p.tun = true then ⟨[], [p.n], false⟩ else ⟨[p.n], [], false⟩
def aFrame (room life : Int) (s : AS) (fr : Pl) (b : List UInt8) (now : Int) : AOut × Int × AL :=
  if b.length < 14 then (noOut, 2, s.A)
  else if 9000 < b.length then (noOut, 7, s.A)
  else if grpM (macOf b 6) = true then (noOut, 3, s.A)
  else (aGoes s fr (if grpM (macOf b 0) = true then none else afind life (alearn room s.A (macOf b 6) fr now).2.2 (macOf b 0) now), 0, (alearn room s.A (macOf b 6) fr now).2.2)
def aFromPort (room life : Int) (X : AB) (p : Int) (b : List UInt8) (now : Int) : AOut × Int × AB := match mget X.bd p with
  | none => (noOut, 6, X)
  | some i => ((aFrame room life (X.at i) ⟨false, p⟩ b now).1, (aFrame room life (X.at i) ⟨false, p⟩ b now).2.1, X.put i ⟨(aFrame room life (X.at i) ⟨false, p⟩ b now).2.2, (X.at i).ps, (X.at i).qs⟩)
def aFromTunnel (room life : Int) (X : AB) (n t : Int) (b : List UInt8) (now : Int) : AOut × Int × AB :=
  if ¬ okSeg n ∨ ¬ t ∈ (X.at n).qs then (noOut, 6, X)
  else ((aFrame room life (X.at n) ⟨true, t⟩ b now).1, (aFrame room life (X.at n) ⟨true, t⟩ b now).2.1, X.put n ⟨(aFrame room life (X.at n) ⟨true, t⟩ b now).2.2, (X.at n).ps, (X.at n).qs⟩)

/-- What holds of a bridge at all times. -/
structure Good (X : AB) : Prop where
  len : X.sg.length = 8
  nd : (X.bd.map (·.1)).Nodup
  bl : X.bd.length ≤ 16
  bk : ∀ p i, mget X.bd p = some i → (0 ≤ p ∧ p ≤ 9223372036854775807) ∧ okSeg i
  rp : ∀ n, okSeg n → Ris (X.at n).ps
  rq : ∀ n, okSeg n → Ris (X.at n).qs
  ql : ∀ n, okSeg n → (X.at n).qs.length ≤ 8
  mem : ∀ n, okSeg n → ∀ p, p ∈ (X.at n).ps ↔ mget X.bd p = some n
  qk : ∀ n, okSeg n → ∀ t ∈ (X.at n).qs, 0 ≤ t ∧ t ≤ 9223372036854775807
def AB.new : AB := ⟨[], List.replicate 8 ⟨[], [], []⟩⟩
theorem new_at {n : Int} (hn : okSeg n) : AB.new.at n = ⟨[], [], []⟩ := by
  obtain ⟨h1, h2⟩ := hn
  unfold AB.at AB.new
  rw [List.getD_eq_getElem?_getD]
  rw [List.getElem?_replicate, if_pos (by omega)]; rfl
theorem Good.new : Good AB.new := by
  refine ⟨rfl, List.nodup_nil, by simp [AB.new], fun p i h => ?_, fun n hn => ?_, fun n hn => ?_, fun n hn => ?_, fun n hn p => ?_, fun n hn t ht => ?_⟩
  · cases h
  · rw [new_at hn]; exact List.Pairwise.nil
  · rw [new_at hn]; exact List.Pairwise.nil
  · rw [new_at hn]; simp
  · rw [new_at hn]
    constructor
    · intro h; cases h
    · intro h; cases h
  · rw [new_at hn] at ht; cases ht
theorem nodup_len {l m : List Int} (hn : l.Nodup) (h : ∀ x ∈ l, x ∈ m) : l.length ≤ m.length := by
  induction l generalizing m with
  | nil => simp
  | cons a r ih =>
    obtain ⟨h1, h2⟩ := List.nodup_cons.1 hn
    have ha := h a (List.mem_cons_self ..)
    have := ih (m := m.erase a) h2 (fun x hx => (List.mem_erase_of_ne (show x ≠ a from fun e => h1 (by rw [← e]; exact hx))).2 (h x (List.mem_cons_of_mem _ hx)))
    rw [List.length_erase_of_mem ha] at this
    have := List.length_pos_of_mem ha
    simp
    omega
theorem Ris.nodup {l : List Int} (h : Ris l) : l.Nodup := List.Pairwise.imp (fun h => Int.ne_of_lt h) h
theorem Good.pl {X : AB} (h : Good X) {n : Int} (hn : okSeg n) : (X.at n).ps.length ≤ 16 := by
  have := nodup_len (l := (X.at n).ps) (m := X.bd.map (·.1)) (h.rp n hn).nodup (fun x hx => List.mem_map.2 ⟨_, mget_some ((h.mem n hn x).1 hx), rfl⟩)
  rw [List.length_map] at this
  have := h.bl
  omega
/-- A segment turns in its base alone. -/
theorem Good.base {X : AB} (h : Good X) {n : Int} (hn : okSeg n) (A : AL) : Good (X.put n ⟨A, (X.at n).ps, (X.at n).qs⟩) := by
  have e : ∀ m, okSeg m → ((X.put n ⟨A, (X.at n).ps, (X.at n).qs⟩).at m).ps = (X.at m).ps ∧ ((X.put n ⟨A, (X.at n).ps, (X.at n).qs⟩).at m).qs = (X.at m).qs := by
    intro m hm
    rw [at_put h.len hn hm]
    split
    · rename_i hmn; subst hmn; exact ⟨rfl, rfl⟩
    · exact ⟨rfl, rfl⟩
  refine ⟨by simp [AB.put, h.len], h.nd, h.bl, h.bk, fun m hm => ?_, fun m hm => ?_, fun m hm => ?_, fun m hm p => ?_, fun m hm t ht => ?_⟩
  · rw [(e m hm).1]; exact h.rp m hm
  · rw [(e m hm).2]; exact h.rq m hm
  · rw [(e m hm).2]; exact h.ql m hm
  · rw [(e m hm).1]; exact h.mem m hm p
  · rw [(e m hm).2] at ht; exact h.qk m hm t ht
/-- A segment turns in its base and its peers. -/
theorem Good.peers {X : AB} (h : Good X) {n : Int} (hn : okSeg n) (A : AL) {qs : List Int} (h1 : Ris qs) (h2 : qs.length ≤ 8) (h3 : ∀ t ∈ qs, 0 ≤ t ∧ t ≤ 9223372036854775807) : Good (X.put n ⟨A, (X.at n).ps, qs⟩) := by
  have e : ∀ m, okSeg m → ((X.put n ⟨A, (X.at n).ps, qs⟩).at m).ps = (X.at m).ps ∧ ((X.put n ⟨A, (X.at n).ps, qs⟩).at m).qs = if m = n then qs else (X.at m).qs := by
    intro m hm
    rw [at_put h.len hn hm]
    by_cases hmn : m = n
    · subst hmn; simp
    · simp [hmn]
  refine ⟨by simp [AB.put, h.len], h.nd, h.bl, h.bk, fun m hm => ?_, fun m hm => ?_, fun m hm => ?_, fun m hm p => ?_, fun m hm t ht => ?_⟩
  · rw [(e m hm).1]; exact h.rp m hm
  · rw [(e m hm).2]; split; exact h1; exact h.rq m hm
  · rw [(e m hm).2]; split; exact h2; exact h.ql m hm
  · rw [(e m hm).1]; exact h.mem m hm p
  · rw [(e m hm).2] at ht
    split at ht
    · exact h3 t ht
    · exact h.qk m hm t ht
theorem Good.unbind {X : AB} (h : Good X) (p : Int) : Good (aUnbind X p).2 := by
  unfold aUnbind
  cases hg : mget X.bd p with
  | none => exact h
  | some i =>
    simp only
    have hi := (h.bk p i hg).2
    have e : ∀ m, okSeg m → (⟨mdel X.bd p, X.sg.set i.toNat (unbindS (X.at i) p)⟩ : AB).at m = if m = i then unbindS (X.at i) p else X.at m := fun m hm => at_put h.len hi hm _
    refine ⟨by simp [h.len], mdel_nodup h.nd p, Nat.le_trans (mdel_length_le _ _) h.bl, fun q j hq => ?_, fun m hm => ?_, fun m hm => ?_, fun m hm => ?_, fun m hm q => ?_, fun m hm t ht => ?_⟩
    · rw [mget_mdel h.nd] at hq
      split at hq
      · cases hq
      · exact h.bk q j hq
    · rw [e m hm]; split
      · exact (h.rp i hi).del p
      · exact h.rp m hm
    · rw [e m hm]; split
      · exact h.rq i hi
      · exact h.rq m hm
    · rw [e m hm]; split
      · exact h.ql i hi
      · exact h.ql m hm
    · rw [e m hm, mget_mdel h.nd]
      split
      · rename_i hmi
        subst hmi
        unfold unbindS
        rw [mem_delI, h.mem m hm q]
        by_cases hqp : q = p
        · simp [hqp]
        · simp [hqp]
      · rename_i hmi
        rw [h.mem m hm q]
        by_cases hqp : q = p
        · subst hqp
          rw [hg, if_pos rfl]
          simp; exact fun h => hmi h.symm
        · rw [if_neg hqp]
    · rw [e m hm] at ht
      split at ht
      · exact h.qk i hi t ht
      · exact h.qk m hm t ht
theorem unbind_none {X : AB} (h : Good X) (p : Int) : mget (aUnbind X p).2.bd p = none := by
  unfold aUnbind
  cases hg : mget X.bd p with
  | none => exact hg
  | some i => simp only; rw [mget_mdel h.nd, if_pos rfl]
theorem unbind_len {X : AB} (h : Good X) {p i : Int} (hg : mget X.bd p = some i) : (aUnbind X p).2.bd.length + 1 = X.bd.length := by
  unfold aUnbind
  rw [hg]
  simp only
  have := mdel_length h.nd p
  rw [hg] at this
  simp at this
  have := List.length_pos_of_mem (mget_some hg)
  omega
/-- A port that is not bound is bound. -/
theorem Good.bind1 {Y : AB} (h : Good Y) {p t : Int} (hp : 0 ≤ p ∧ p ≤ 9223372036854775807) (ht : okSeg t) (hn : mget Y.bd p = none) (hl : Y.bd.length < 16) : Good ⟨mput Y.bd p t, Y.sg.set t.toNat (bindS (Y.at t) p)⟩ := by
  have e : ∀ m, okSeg m → (⟨mput Y.bd p t, Y.sg.set t.toNat (bindS (Y.at t) p)⟩ : AB).at m = if m = t then bindS (Y.at t) p else Y.at m := fun m hm => at_put h.len ht hm _
  refine ⟨by simp [h.len], mput_nodup h.nd p t, by rw [mput_length, hn]; simp; omega, fun q j hq => ?_, fun m hm => ?_, fun m hm => ?_, fun m hm => ?_, fun m hm q => ?_, fun m hm u hu => ?_⟩
  · rw [mget_mput h.nd] at hq
    split at hq
    · rename_i hqp; cases hq; subst hqp; exact ⟨hp, ht⟩
    · exact h.bk q j hq
  · rw [e m hm]; split
    · exact (h.rp t ht).add p
    · exact h.rp m hm
  · rw [e m hm]; split
    · exact h.rq t ht
    · exact h.rq m hm
  · rw [e m hm]; split
    · exact h.ql t ht
    · exact h.ql m hm
  · rw [e m hm, mget_mput h.nd]
    split
    · rename_i hmt
      subst hmt
      unfold bindS
      rw [mem_addI, h.mem m hm q]
      by_cases hqp : q = p
      · simp [hqp]
      · simp [hqp]
    · rename_i hmt
      rw [h.mem m hm q]
      by_cases hqp : q = p
      · subst hqp
        rw [hn, if_pos rfl]
        simp; exact fun h => hmt h.symm
      · rw [if_neg hqp]
  · rw [e m hm] at hu
    split at hu
    · exact h.qk t ht u hu
    · exact h.qk m hm u hu
theorem Good.bind {X : AB} (h : Good X) {p t : Int} (hp : p ≤ 9223372036854775807) : Good (aBind X p t).2 := by
  unfold aBind
  split
  · exact h
  · rename_i h1
    split
    · exact h
    · split
      · exact h
      · rename_i h2 h3
        have h4 : 0 ≤ p ∧ okSeg t := by
          constructor
          · apply Classical.byContradiction; intro hh; exact h1 (.inl (by omega))
          · apply Classical.byContradiction; intro hh; exact h1 (.inr hh)
        refine (h.unbind p).bind1 ⟨h4.1, hp⟩ h4.2 (unbind_none h p) ?_
        cases hg : mget X.bd p with
        | none =>
          have : (aUnbind X p).2 = X := by unfold aUnbind; rw [hg]
          rw [this]
          apply Classical.byContradiction; intro hh; exact h3 ⟨hg, by omega⟩
        | some i =>
          have := unbind_len h hg
          have := h.bl
          omega
theorem Good.peer {X : AB} (h : Good X) {n t : Int} (ht : t ≤ 9223372036854775807) : Good (aPeer X n t).2 := by
  unfold aPeer
  split
  · exact h
  · rename_i h1
    split
    · exact h
    · split
      · exact h
      · rename_i h2 h3
        have h4 : 0 ≤ t ∧ okSeg n := by
          constructor
          · apply Classical.byContradiction; intro hh; exact h1 (.inl (by omega))
          · apply Classical.byContradiction; intro hh; exact h1 (.inr hh)
        refine h.peers h4.2 _ ((h.rq n h4.2).add t) (by rw [addI_len (h.rq n h4.2) h2]; omega) ?_
        intro u hu
        rcases mem_addI.1 hu with rfl | hu
        · exact ⟨h4.1, ht⟩
        · exact h.qk n h4.2 u hu
theorem Good.unpeer {X : AB} (h : Good X) (n t : Int) : Good (aUnpeer X n t).2 := by
  unfold aUnpeer
  split
  · exact h
  · rename_i h1
    have hn : okSeg n := by apply Classical.byContradiction; intro hh; exact h1 (.inl hh)
    exact h.peers hn _ ((h.rq n hn).del t) (Nat.le_trans (List.length_filter_le _ _) (h.ql n hn)) (fun u hu => h.qk n hn u (mem_delI.1 hu).1)
theorem Good.fromPort {X : AB} (h : Good X) (room life : Int) (p : Int) (b : List UInt8) (now : Int) : Good (aFromPort room life X p b now).2.2 := by
  unfold aFromPort
  cases hg : mget X.bd p with
  | none => exact h
  | some i => exact h.base (h.bk p i hg).2 _
theorem Good.fromTunnel {X : AB} (h : Good X) (room life : Int) (n t : Int) (b : List UInt8) (now : Int) : Good (aFromTunnel room life X n t b now).2.2 := by
  unfold aFromTunnel
  split
  · exact h
  · rename_i h1
    exact h.base (by apply Classical.byContradiction; intro hh; exact h1 (.inl hh)) _
end Go.Proofs.YticebdoiahadoaaDoor