/- TunnelApart: the plain law; tunnels and a packet that came in. -/
import Derived.Test.YthoppkklooomgaaSh14
import Derived.Test.YthoppkklooomgaaLiftTn
namespace Go.Proofs.Ythoppkklooomgaa
open Go.RowKit Go.Deep Go.ChangeShapes Go.WideShapes
set_option linter.unusedVariables false
set_option linter.unusedSimpArgs false
theorem add_next (A : TA) (t : Tn) : (A.add t).1.next ≤ A.next + 1 := by
  unfold TA.add
  split
  · simp
  · split
    · simp
    · split
      · simp
      · simp
def kindP (p : Pk) : Int := if p.proto = 17 ∧ p.dport = 4789 then 1 else if p.proto = 17 ∧ p.dport = 6081 then 2 else if p.proto = 47 then 3 else 0
/-- What comes out came by a tunnel of the table. -/
theorem decap_from {A : TA} (hA : A.Ok) {p : Pk} {B : TA} {n : Int} {fs : List UInt8} (h : A.decap p = (B, .ok n fs)) :
    ∃ e, mget B.l n = some e ∧ e.t.loc = p.dst ∧ e.t.pee = p.src ∧ e.t.kind = kindP p ∧ 14 ≤ fs.length ∧ fs.length ≤ 9000 ∧ 0 ≤ n ∧ n < A.next := by
  unfold TA.decap at h
  cases ht : takeP p with
  | no ls m => rw [ht] at h; simp at h
  | ok kind id keyed os seqed seq gs =>
    rw [ht] at h
    simp only at h
    obtain ⟨-, k1, k2, k3, k4⟩ := takeP_ok ht
    cases hf : A.find kind p.dst p.src id keyed with
    | inr m => rw [hf] at h; simp at h
    | inl q =>
      rw [hf] at h
      obtain ⟨m, e⟩ := q
      simp only at h
      obtain ⟨hm, hi⟩ := TA.find_mem hf
      obtain ⟨h1, h2⟩ := Prod.mk.inj h
      have h3 : e.accepts os seqed seq = 0 ∧ m = n ∧ gs = fs := by
        by_cases ha : e.accepts os seqed seq = 0
        · rw [if_pos ha] at h2
          obtain ⟨a, b⟩ := DecR.ok.inj h2
          exact ⟨ha, a, b⟩
        · rw [if_neg ha] at h2; cases h2
      obtain ⟨-, rfl, rfl⟩ := h3
      have hb : (e.behind os seqed seq).t = e.t := by
        unfold TE.behind
        split
        · rfl
        · split <;> rfl
      unfold isIt isEnd at hi
      simp only [Bool.and_eq_true, decide_eq_true_eq] at hi
      obtain ⟨⟨i1, i2, i3⟩, -⟩ := hi
      have hk := hA.key _ hm
      refine ⟨e.behind os seqed seq, ?_, by rw [hb]; exact i2, by rw [hb]; exact i3, ?_, k1, k2, hk.1, hk.2⟩
      · rw [← h1]
        show mget (mput A.l m _) m = _
        rw [mget_mput hA.nd, if_pos rfl]
      · rw [hb, i1, k3]
        unfold kindP
        rcases k4 with h | h | h
        · rw [if_pos h, if_pos h]
        · by_cases h' : p.proto = 17 ∧ p.dport = 4789
          · rw [if_pos h', if_pos h']
          · rw [if_neg h', if_neg h', if_pos h, if_pos h]
        · have e1 : ¬ (p.proto = 17 ∧ p.dport = 4789) := by omega
          have e2 : ¬ (p.proto = 17 ∧ p.dport = 6081) := by omega
          rw [if_neg e1, if_neg e2, if_neg e1, if_neg e2, if_pos h]
/-- Tunnels that are read. -/
structure Tns (w : World) (ao : Option Addr) (n cap : Nat) : Prop where
  le : n ≤ cap
  capLe : cap ≤ 9223372036854775807
  at' : ∀ i, i < n → ∃ (g off : Nat) (t : Tn) (oo : Option Addr) (on oc : Nat) (ko : Option Addr) (kn kc : Nat), ao = some ⟨g, off, none⟩ ∧ TnRd w t oo on oc ko kn kc ∧
    w.cell? ⟨g, off + i * 9, none⟩ = some (.int .i64 t.kind) ∧ w.cell? ⟨g, off + i * 9 + 1, none⟩ = some (.int .u32 (t.loc : Int)) ∧ w.cell? ⟨g, off + i * 9 + 2, none⟩ = some (.int .u32 (t.pee : Int)) ∧ w.cell? ⟨g, off + i * 9 + 3, none⟩ = some (.int .u32 (t.id : Int)) ∧
    w.cell? ⟨g, off + i * 9 + 4, none⟩ = some (.int .i64 t.seg) ∧ w.cell? ⟨g, off + i * 9 + 5, none⟩ = some (.slice oo on oc) ∧ w.cell? ⟨g, off + i * 9 + 6, none⟩ = some (.slice ko kn kc) ∧ w.cell? ⟨g, off + i * 9 + 7, none⟩ = some (.bool t.sum) ∧ w.cell? ⟨g, off + i * 9 + 8, none⟩ = some (.bool t.seq)
theorem weights_all {H : Type} {P : Program} {e : TypeId} {d : DataW H} : ∀ {ds : List (DataW H)}, d ∈ ds → ∀ z ∈ d.weights P e, z ∈ DataW.weightsAll P e ds
  | d0 :: ds, hd, z, hz => by
    simp only [DataW.weightsAll, List.mem_append]
    rcases List.mem_cons.1 hd with rfl | h
    · exact .inl hz
    · exact .inr (weights_all h z hz)
  | [], hd, _, _ => by simp at hd
theorem cells_ttunnel : Try.prog.cellsOf 27 = 9 := by kernel_rfl
set_option maxRecDepth 100000 in
theorem open_tunnels {H : Type} {enc : TypeId × Value → H} {w : World} {base : Nat} {spare : Nat → Bool} {held : Bool} {r : Reach} {b0 : Nat} {v : Value} {d : DataW H} {p : List MemPlace}
    (hv : Value.okWide Try.prog w r b0 58 v) (h : DataW.Trod enc Try.prog w base spare held 58 v d p) (hz : ∀ z ∈ d.weights Try.prog 58, z ≤ reachBytes) :
    ∃ ao n cap, v = .slice ao n cap ∧ Tns w ao n cap := by
  obtain ⟨ao, n, cap, rfl⟩ := okWide_slice Try.underlying58 hv
  obtain ⟨fuel, hf⟩ := h
  rcases open_slice Try.underlying58 hf with ⟨h0, -⟩ | ⟨a, len, cp, m, k, D, Pl, hcs, hb, hl, hm, hmm, hx, hi⟩
  · simp [Value.cells] at h0
    obtain ⟨rfl, rfl, rfl⟩ := h0
    exact ⟨none, 0, 0, rfl, Nat.le_refl _, by omega, fun i hi => by omega⟩
  · simp [Value.cells] at hcs
    obtain ⟨rfl, rfl, rfl⟩ := hcs
    obtain ⟨hd, -⟩ := Prod.mk.inj hx
    refine ⟨_, _, _, rfl, hl, by unfold maxLen at hm; omega, fun i hin => ?_⟩
    have him : i < m := by rw [hmm]; split <;> omega
    obtain ⟨cs', hc, ht⟩ := hi i him
    rw [cells_ttunnel] at hc
    obtain ⟨_, hcl, hat⟩ := World.cells?_some hc
    obtain ⟨t, oo, on, oc, ko, kn, kc, rfl, hrd⟩ := trod_tunnel ht (fun z hzz => hz z (by
      rw [hd]
      simp only [DataW.weights, Try.underlying58, List.mem_cons, List.mem_append]
      exact .inr (.inl (weights_all (List.mem_map.2 ⟨i, List.mem_range.2 hin, rfl⟩) z hzz))))
    obtain ⟨cs0, hc0, -⟩ := hi 0 (by omega)
    rw [cells_ttunnel, Nat.zero_mul] at hc0
    obtain ⟨_, hcl0, hat0⟩ := World.cells?_some hc0
    have c0 := hat0 0 (by omega)
    rw [List.getElem?_eq_getElem (by omega), show (a.add 0).add 0 = a from rfl] at c0
    have hsa : a.spot = none := World.cell?_spot c0
    obtain ⟨g, off, sp⟩ := a
    simp only at hsa
    subst hsa
    refine ⟨g, off, t, oo, on, oc, ko, kn, kc, rfl, hrd, ?_, ?_, ?_, ?_, ?_, ?_, ?_, ?_, ?_⟩
    · have := hat 0 (by omega); simpa [Addr.add_lit] using this
    · have := hat 1 (by omega); simpa [Addr.add_lit, Nat.add_assoc] using this
    · have := hat 2 (by omega); simpa [Addr.add_lit, Nat.add_assoc] using this
    · have := hat 3 (by omega); simpa [Addr.add_lit, Nat.add_assoc] using this
    · have := hat 4 (by omega); simpa [Addr.add_lit, Nat.add_assoc] using this
    · have := hat 5 (by omega); simpa [Addr.add_lit, Nat.add_assoc] using this
    · have := hat 6 (by omega); simpa [Addr.add_lit, Nat.add_assoc] using this
    · have := hat 7 (by omega); simpa [Addr.add_lit, Nat.add_assoc] using this
    · have := hat 8 (by omega); simpa [Addr.add_lit, Nat.add_assoc] using this
theorem list6 {α : Type} {l : List α} (h : l.length = 6) : ∃ a b c d e f, l = [a, b, c, d, e, f] := by
  match l, h with
  | [a, b, c, d, e, f], _ => exact ⟨a, b, c, d, e, f, rfl⟩
set_option maxRecDepth 100000 in
theorem open_packet {H : Type} {enc : TypeId × Value → H} {w : World} {base : Nat} {spare : Nat → Bool} {held : Bool} {r : Reach} {b0 : Nat} {v : Value} {d : DataW H} {p : List MemPlace}
    (hv : Value.okWide Try.prog w r b0 41 v) (h : DataW.Trod enc Try.prog w base spare held 41 v d p) :
    ∃ (q : Pk) (bo : Option Addr) (bn bc : Nat), v = .agg #[.int .u32 (q.src : Int), .int .u32 (q.dst : Int), .int .u8 (q.proto : Int), .int .u16 (q.sport : Int), .int .u16 (q.dport : Int), .slice bo bn bc] ∧ Bs w bo bn bc q.b ∧ q.src < 4294967296 ∧ q.dst < 4294967296 := by
  obtain ⟨cs, rfl, hl, hc⟩ := open_flat Try.underlying41 (by kernel_rfl) (by kernel_rfl) hv h
  obtain ⟨x0, x1, x2, x3, x4, x5, rfl⟩ := list6 hl
  obtain ⟨_, _, _, h0, t0⟩ := hc 0 _ rfl
  obtain ⟨_, _, _, h1, t1⟩ := hc 1 _ rfl
  obtain ⟨_, _, _, h2, t2⟩ := hc 2 _ rfl
  obtain ⟨_, _, _, h3, t3⟩ := hc 3 _ rfl
  obtain ⟨_, _, _, h4, t4⟩ := hc 4 _ rfl
  obtain ⟨_, _, _, h5, t5⟩ := hc 5 _ rfl
  cases h0; cases h1; cases h2; cases h3; cases h4; cases h5
  obtain ⟨src, rfl, k0⟩ := cell_u32 Try.underlying23 t0
  obtain ⟨dst, rfl, k1⟩ := cell_u32 Try.underlying23 t1
  obtain ⟨pr, rfl⟩ := cell_u8 Try.underlying5 t2
  obtain ⟨sp, rfl, -⟩ := cell_u16 Try.underlying35 t3
  obtain ⟨dp, rfl, -⟩ := cell_u16 Try.underlying35 t4
  obtain ⟨bo, bn, bc, bs, rfl, hb⟩ := cell_bytes Try.underlying36 Try.underlying5 (by kernel_rfl) t5
  exact ⟨⟨src, dst, pr.toNat, sp, dp, bs⟩, bo, bn, bc, rfl, hb, k0, k1⟩
end Go.Proofs.Ythoppkklooomgaa