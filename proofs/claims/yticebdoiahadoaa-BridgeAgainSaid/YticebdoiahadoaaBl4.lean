/- bridge laws: does. -/
import Derived.Test.YticebdoiahadoaaBlQ
namespace Go.Proofs.Yticebdoiahadoaa
open Go.RowKit
set_option linter.unusedVariables false
set_option linter.unusedSimpArgs false

structure St16 where
  kind : Int
  n : Int
  s : Int
  b : List UInt8
  by_ : UInt8
deriving Inhabited
def aDoes (room life : Int) (X : AB) (x : St16) (now : Int) : AOut × Int × AB :=
  if x.kind = 0 then (noOut, -1, (aBind X x.n x.s).2)
  else if x.kind = 1 then (noOut, -1, (aUnbind X x.n).2)
  else if x.kind = 2 then (noOut, -1, (aPeer X x.s x.n).2)
  else if x.kind = 3 then (noOut, -1, (aUnpeer X x.s x.n).2)
  else if x.kind = 4 ∨ x.kind = 5 ∨ x.kind = 6 ∨ x.kind = 7 then
    if (aFromPort room life X x.n x.b now).2.1 = 0 then ((aFromPort room life X x.n x.b now).1, (mget X.bd x.n).getD 0, (aFromPort room life X x.n x.b now).2.2) else (noOut, -1, (aFromPort room life X x.n x.b now).2.2)
  else if x.kind = 8 ∨ x.kind = 9 then
    if (aFromTunnel room life X x.s x.n x.b now).2.1 = 0 then ((aFromTunnel room life X x.s x.n x.b now).1, x.s, (aFromTunnel room life X x.s x.n x.b now).2.2) else (noOut, -1, (aFromTunnel room life X x.s x.n x.b now).2.2)
  else (noOut, -1, X)
def okSt (x : St16) : Prop := okI x.kind ∧ okI x.n ∧ okI x.s
theorem cells5s {w : World} {b : Nat} {c0 c1 c2 c3 c4 : Value} {e : TypeId} {f : Nat × Nat} (h : w.heap[b]? = some (.cells #[c0, c1, c2, c3, c4] e f)) : w.cell? ⟨b, 0, none⟩ = some c0 ∧ w.cell? ⟨b, 1, none⟩ = some c1 ∧ w.cell? ⟨b, 2, none⟩ = some c2 ∧ w.cell? ⟨b, 3, none⟩ = some c3 ∧ w.cell? ⟨b, 4, none⟩ = some c4 :=
  ⟨by rw [cell_of_row w b 0 _ e f h]; rfl, by rw [cell_of_row w b 1 _ e f h]; rfl, by rw [cell_of_row w b 2 _ e f h]; rfl, by rw [cell_of_row w b 3 _ e f h]; rfl, by rw [cell_of_row w b 4 _ e f h]; rfl⟩

theorem does_end {Z Z1 : Nat → Prop} {w wA w2 wq : World} {bb : Nat} {room life : Int} {X' : AB} {o : AOut} {s : Int} {po qo : Option Addr} {pc qc : Nat} (hA : Fr No w wA) (hz : ∀ k, Z k → Z1 k) (hb : Z1 (w.heap.size + 1)) (h2 : BrZ (fun k => Z1 k ∨ At po k ∨ At qo k) w2 bb room life X') (f2 : Fr (NZ Z1) wA w2)
    {cs : Array Value} (rb : w2.heap[w.heap.size + 1]? = some (.cells cs 34 (0, 0))) (cp : OI w2 po o.ps.length pc o.ps) (cq : OI w2 qo o.qs.length qc o.qs) (fq : Fr (Is (w.heap.size + 1)) w2 wq) :
    GoesZ Z w bb room life (o, s, X') (.returned (.tuple #[.agg #[.slice po o.ps.length pc, .slice qo o.qs.length qc, .bool o.fl], .int .i64 s])) wq := by
  have hout : ∀ {ao : Option Addr} {n c : Nat} {zs : List Int}, OI w2 ao n c zs → Out (Is (w.heap.size + 1)) ao := by
    intro ao n c zs ho a ha e
    obtain ⟨-, cur, g2, -⟩ := ho.2.row a ha
    rw [show a.block = w.heap.size + 1 from e, rb] at g2; simp at g2
  refine ⟨po, pc, qo, qc, rfl, cp.fr fq (hout cp), cq.fr fq (hout cq), ?_, ?_⟩
  · exact (h2.wr (fq.mono (fun k _ e => .inl (by rw [show k = w.heap.size + 1 from e]; exact hb)))).less (fun k hk => hk.imp (hz k) id)
  · have f1 : Fr (NZ Z) w w2 := (hA.of_no).then f2 (fun i hi hn h => hn (hz i h))
    exact f1.then fq (fun i hi e => by simp only [Is] at e; omega)
theorem BrZ.two {Z : Nat → Prop} {w : World} {bb : Nat} {room life : Int} {X : AB} (h : BrZ Z w bb room life X) (o1 o2 : Obj) : ∃ Z1, BrZ Z1 ((w.alloc o1).alloc o2) bb room life X ∧ (∀ k, Z k → Z1 k) ∧ Z1 w.heap.size ∧ Z1 (w.heap.size + 1) :=
  ⟨_, h.more (((Fr.refl No w).alloc o1).alloc o2), fun k hk => .inl hk, .inr ⟨Nat.le_refl _, by simp; omega⟩, .inr ⟨by omega, by simp⟩⟩
theorem BrZ.nones {Z : Nat → Prop} {w : World} {bb : Nat} {room life : Int} {X : AB} (h : BrZ Z w bb room life X) : BrZ (fun k => Z k ∨ At none k ∨ At none k) w bb room life X :=
  h.less (fun k hk => by rcases hk with hk | ⟨a, ha, -⟩ | ⟨a, ha, -⟩; exact hk; cases ha; cases ha)
set_option maxRecDepth 100000 in
set_option maxHeartbeats 8000000 in
theorem l16does_z {Z : Nat → Prop} {w : World} {bb : Nat} {room life : Int} {X : AB} (h : BrZ Z w bb room life X) (x : St16) (hx : okSt x) {bo : Option Addr} {cap : Nat} (hb : Bs w bo x.b.length cap x.b) {now : Int} (hn0 : 0 ≤ now) (hn1 : now < 18446744073709551616) {r : AOut × Int × AB} (hr : aDoes room life X x now = r) :
    Calls Try.prog 12 #[.pointer (some ⟨bb, 0, none⟩), .agg #[.int .i64 x.kind, .int .i64 x.n, .int .i64 x.s, .slice bo x.b.length cap, .int .u8 (x.by_.toNat : Int)], .int .u64 now] w (GoesZ Z w bb room life r) := by
  obtain ⟨kd, n, s, bs, by_⟩ := x
  obtain ⟨hk, hn, hs⟩ := hx
  simp only at hk hn hs hb ⊢
  generalize hlen : bs.length = len at hb ⊢
  obtain ⟨Z1, g1, g2, g3, g4⟩ := h.two (.cells #[.int .i64 kd, .int .i64 n, .int .i64 s, .slice bo len cap, .int .u8 (by_.toNat : Int)] 31) (.cells #[.slice none 0 0, .slice none 0 0, .bool false] 34)
  have HZ := Lib.hid g1
  have ZS := Lib.hid g2
  have ZA := Lib.hid g3
  have ZB := Lib.hid g4
  have fA := ((Fr.refl No w).alloc (.cells #[.int .i64 kd, .int .i64 n, .int .i64 s, .slice bo len cap, .int .u8 (by_.toNat : Int)] 31)).alloc (.cells #[.slice none 0 0, .slice none 0 0, .bool false] 34)
  have FA := Lib.hid fA
  have RA := Lib.hid (((Fr.refl No _).alloc (.cells #[.slice none 0 0, .slice none 0 0, .bool false] 34)).heap (heap_alloc_new w (.cells #[.int .i64 kd, .int .i64 n, .int .i64 s, .slice bo len cap, .int .u8 (by_.toNat : Int)] 31)) (fun h => h))
  have rb := heap_alloc_new (w.alloc (.cells #[.int .i64 kd, .int .i64 n, .int .i64 s, .slice bo len cap, .int .u8 (by_.toNat : Int)] 31)) (.cells #[.slice none 0 0, .slice none 0 0, .bool false] 34)
  simp only [World.size_alloc] at rb
  have RB := Lib.hid rb
  have HB := Lib.hid (hb.no fA)
  have HN := Lib.hid hn
  have HS := Lib.hid hs
  have HR := Lib.hid hr
  have HLN := Lib.hid hlen
  clear h hb hn hs hr hlen g1 g2 g3 g4 fA rb
  by_cases k0 : kd = 0
  · subst k0
    obtain ⟨⟨c, X'⟩, hop⟩ : ∃ q, aBind X n s = q := ⟨_, rfl⟩
    have HOP := Lib.hid hop
    have HX := Lib.hid (show r = (noOut, -1, X') from by rw [← HR.out]; simp [aDoes, hop])
    clear hop
    go_enter Try.func12, Try.ntmps12
    go_wp2_with fail
    refine (bgBind_z HZ.out HN.out HOP.out).mono ?_
    rintro e w2 ⟨rfl, h2, f2⟩
    have R2 := Lib.hid (f2.heap RB.out (fun h => h ZB.out))
    obtain ⟨s0, s1, s2⟩ := cells3 R2.out
    obtain ⟨z0, z1, z2⟩ := free3 R2.out
    have fin := does_end (o := noOut) (s := -1) FA.out ZS.out ZB.out h2.nones f2 R2.out (OI.nil _) (OI.nil _) (frIs3 w2 (w.heap.size + 1) (.slice none 0 0) (.slice none 0 0) (.bool false))
    have hz := set3 R2.out (.slice none 0 0) (.slice none 0 0) (.bool false)
    rw [← HX.out] at fin
    have FIN := Lib.hid fin
    have HQ := Lib.hid hz
    clear h2 f2 fin hz
    go_wp2_with fail
    have fin := FIN.out
    have hz := HQ.out
    clear s0 s1 s2 z0 z1 z2 FIN HQ
    generalize World.setCell _ _ _ = wq at fin hz ⊢
    obtain ⟨s0, s1, s2⟩ := cells3 hz
    refine bodyPost_ret (v := .tuple #[.agg #[.slice none 0 0, .slice none 0 0, .bool false], .int .i64 (-1)]) (by simp [results, Try.results12, go_sem, s0, s1, s2]) rfl ?_
    exact fin
  by_cases k1 : kd = 1
  · subst k1
    obtain ⟨⟨c, X'⟩, hop⟩ : ∃ q, aUnbind X n = q := ⟨_, rfl⟩
    have HOP := Lib.hid hop
    have HX := Lib.hid (show r = (noOut, -1, X') from by rw [← HR.out]; simp [aDoes, hop])
    clear hop
    go_enter Try.func12, Try.ntmps12
    go_wp2_with fail
    refine (bgUnbind_z HZ.out HN.out HOP.out).mono ?_
    rintro e w2 ⟨rfl, h2, f2⟩
    have R2 := Lib.hid (f2.heap RB.out (fun h => h ZB.out))
    obtain ⟨s0, s1, s2⟩ := cells3 R2.out
    obtain ⟨z0, z1, z2⟩ := free3 R2.out
    have fin := does_end (o := noOut) (s := -1) FA.out ZS.out ZB.out h2.nones f2 R2.out (OI.nil _) (OI.nil _) (frIs3 w2 (w.heap.size + 1) (.slice none 0 0) (.slice none 0 0) (.bool false))
    have hz := set3 R2.out (.slice none 0 0) (.slice none 0 0) (.bool false)
    rw [← HX.out] at fin
    have FIN := Lib.hid fin
    have HQ := Lib.hid hz
    clear h2 f2 fin hz
    go_wp2_with fail
    have fin := FIN.out
    have hz := HQ.out
    clear s0 s1 s2 z0 z1 z2 FIN HQ
    generalize World.setCell _ _ _ = wq at fin hz ⊢
    obtain ⟨s0, s1, s2⟩ := cells3 hz
    refine bodyPost_ret (v := .tuple #[.agg #[.slice none 0 0, .slice none 0 0, .bool false], .int .i64 (-1)]) (by simp [results, Try.results12, go_sem, s0, s1, s2]) rfl ?_
    exact fin
  by_cases k2 : kd = 2
  · subst k2
    obtain ⟨⟨c, X'⟩, hop⟩ : ∃ q, aPeer X s n = q := ⟨_, rfl⟩
    have HOP := Lib.hid hop
    have HX := Lib.hid (show r = (noOut, -1, X') from by rw [← HR.out]; simp [aDoes, hop])
    clear hop
    go_enter Try.func12, Try.ntmps12
    go_wp2_with fail
    refine (bgPeer_z HZ.out HN.out HOP.out).mono ?_
    rintro e w2 ⟨rfl, h2, f2⟩
    have R2 := Lib.hid (f2.heap RB.out (fun h => h ZB.out))
    obtain ⟨s0, s1, s2⟩ := cells3 R2.out
    obtain ⟨z0, z1, z2⟩ := free3 R2.out
    have fin := does_end (o := noOut) (s := -1) FA.out ZS.out ZB.out h2.nones f2 R2.out (OI.nil _) (OI.nil _) (frIs3 w2 (w.heap.size + 1) (.slice none 0 0) (.slice none 0 0) (.bool false))
    have hz := set3 R2.out (.slice none 0 0) (.slice none 0 0) (.bool false)
    rw [← HX.out] at fin
    have FIN := Lib.hid fin
    have HQ := Lib.hid hz
    clear h2 f2 fin hz
    go_wp2_with fail
    have fin := FIN.out
    have hz := HQ.out
    clear s0 s1 s2 z0 z1 z2 FIN HQ
    generalize World.setCell _ _ _ = wq at fin hz ⊢
    obtain ⟨s0, s1, s2⟩ := cells3 hz
    refine bodyPost_ret (v := .tuple #[.agg #[.slice none 0 0, .slice none 0 0, .bool false], .int .i64 (-1)]) (by simp [results, Try.results12, go_sem, s0, s1, s2]) rfl ?_
    exact fin
  by_cases k3 : kd = 3
  · subst k3
    obtain ⟨⟨c, X'⟩, hop⟩ : ∃ q, aUnpeer X s n = q := ⟨_, rfl⟩
    have HOP := Lib.hid hop
    have HX := Lib.hid (show r = (noOut, -1, X') from by rw [← HR.out]; simp [aDoes, hop])
    clear hop
    go_enter Try.func12, Try.ntmps12
    go_wp2_with fail
    refine (bgUnpeer_z HZ.out  HOP.out).mono ?_
    rintro e w2 ⟨rfl, h2, f2⟩
    have R2 := Lib.hid (f2.heap RB.out (fun h => h ZB.out))
    obtain ⟨s0, s1, s2⟩ := cells3 R2.out
    obtain ⟨z0, z1, z2⟩ := free3 R2.out
    have fin := does_end (o := noOut) (s := -1) FA.out ZS.out ZB.out h2.nones f2 R2.out (OI.nil _) (OI.nil _) (frIs3 w2 (w.heap.size + 1) (.slice none 0 0) (.slice none 0 0) (.bool false))
    have hz := set3 R2.out (.slice none 0 0) (.slice none 0 0) (.bool false)
    rw [← HX.out] at fin
    have FIN := Lib.hid fin
    have HQ := Lib.hid hz
    clear h2 f2 fin hz
    go_wp2_with fail
    have fin := FIN.out
    have hz := HQ.out
    clear s0 s1 s2 z0 z1 z2 FIN HQ
    generalize World.setCell _ _ _ = wq at fin hz ⊢
    obtain ⟨s0, s1, s2⟩ := cells3 hz
    refine bodyPost_ret (v := .tuple #[.agg #[.slice none 0 0, .slice none 0 0, .bool false], .int .i64 (-1)]) (by simp [results, Try.results12, go_sem, s0, s1, s2]) rfl ?_
    exact fin
  by_cases k4 : kd = 4
  · subst k4
    obtain ⟨⟨⟨rps, rqs, rf⟩, rc, X'⟩, hop⟩ : ∃ q, aFromPort room life X n bs now = q := ⟨_, rfl⟩
    have HOP := Lib.hid hop
    have HX := Lib.hid (show r = if rc = 0 then ((⟨rps, rqs, rf⟩ : AOut), ((mget X.bd n).getD 0), X') else (noOut, -1, X') from by rw [← HR.out]; simp [aDoes, hop])
    clear hop
    go_enter Try.func12, Try.ntmps12
    go_wp2_with fail
    obtain ⟨sg, hsg⟩ : ∃ i, (mget X.bd n).getD 0 = i := ⟨_, rfl⟩
    refine (bgSegment_z HZ.out HN.out hsg rfl).mono ?_
    rw [hsg] at HX
    generalize (mget X.bd n).isSome = sbo
    rintro e wS ⟨rfl, fS⟩
    have HZ := Lib.hid (HZ.out.no fS)
    have FA := Lib.hid (FA.out.trans fS)
    have RB := Lib.hid (fS.heap RB.out (fun h => h))
    have HB := Lib.hid (HB.out.no fS)
    have RA := Lib.hid (fS.heap RA.out (fun h => h))
    obtain ⟨a0, a1, a2, a3, a4⟩ := cells5s RA.out
    clear fS
    go_wp2_with fail
    refine (bgFromPort_z HZ.out HN.out HB.out hn0 hn1 HOP.out).mono ?_
    rintro e w4 ⟨po, pc, qo, qc, rfl, cp, cq, h4, f4⟩
    dsimp only at cp cq h4 ⊢
    have R4 := Lib.hid (f4.heap RB.out (fun h => h ZB.out))
    obtain ⟨s0, s1, s2⟩ := cells3 R4.out
    obtain ⟨z0, z1, z2⟩ := free3 R4.out
    have lt6 := lt_of_heap R4.out
    have R4a := Lib.hid (f4.heap RA.out (fun h => h ZA.out))
    by_cases hc : rc = 0
    · subst hc
      have fin := does_end (o := ⟨rps, rqs, rf⟩) (s := sg) FA.out ZS.out ZB.out h4 f4 R4.out cp cq (((frIs3 w4 (w.heap.size + 1) (.slice po rps.length pc) (.slice qo rqs.length qc) (.bool rf)).alloc (.cells #[.slice po rps.length pc, .slice qo rqs.length qc, .bool rf] 34)))
      have hz := (((Fr.refl No _).alloc (.cells #[.slice po rps.length pc, .slice qo rqs.length qc, .bool rf] 34))).heap (set3 R4.out (.slice po rps.length pc) (.slice qo rqs.length qc) (.bool rf)) (fun h => h)
      have hx := HX.out
      rw [if_pos rfl] at hx
      rw [← hx] at fin
      have FIN := Lib.hid fin
      have HQ := Lib.hid hz
      clear h4 f4 fin hz hx cp cq
      go_wp2_with fail
      have fin := FIN.out
      have hz := HQ.out
      clear s0 s1 s2 z0 z1 z2 FIN HQ
      generalize World.alloc _ _ = wq at fin hz ⊢
      obtain ⟨s0, s1, s2⟩ := cells3 hz
      refine bodyPost_ret (v := .tuple #[.agg #[.slice po rps.length pc, .slice qo rqs.length qc, .bool rf], .int .i64 sg]) (by simp [results, Try.results12, go_sem, s0, s1, s2]) rfl ?_
      exact fin
    · have hc' : (rc == 0) = false := by simpa using hc
      have fin := does_end (o := noOut) (s := -1) FA.out ZS.out ZB.out (h4.less (fun k hk => by rcases hk with hk | ⟨a, ha, -⟩ | ⟨a, ha, -⟩; exact .inl hk; cases ha; cases ha)) f4 R4.out (OI.nil _) (OI.nil _) ((frIs3 w4 (w.heap.size + 1) (.slice none 0 0) (.slice none 0 0) (.bool false)).alloc (.cells #[.slice po rps.length pc, .slice qo rqs.length qc, .bool rf] 34))
      have hz := ((Fr.refl No _).alloc (.cells #[.slice po rps.length pc, .slice qo rqs.length qc, .bool rf] 34)).heap (set3 R4.out (.slice none 0 0) (.slice none 0 0) (.bool false)) (fun h => h)
      have hx := HX.out
      rw [if_neg hc] at hx
      rw [← hx] at fin
      have FIN := Lib.hid fin
      have HQ := Lib.hid hz
      clear h4 f4 fin hz hx cp cq hc
      go_wp2_with fail
      have fin := FIN.out
      have hz := HQ.out
      clear s0 s1 s2 z0 z1 z2 FIN HQ
      generalize World.alloc _ _ = wq at fin hz ⊢
      obtain ⟨s0, s1, s2⟩ := cells3 hz
      refine bodyPost_ret (v := .tuple #[.agg #[.slice none 0 0, .slice none 0 0, .bool false], .int .i64 (-1)]) (by simp [results, Try.results12, go_sem, s0, s1, s2]) rfl ?_
      exact fin
  by_cases k5 : kd = 5
  · subst k5
    obtain ⟨⟨⟨rps, rqs, rf⟩, rc, X'⟩, hop⟩ : ∃ q, aFromPort room life X n bs now = q := ⟨_, rfl⟩
    have HOP := Lib.hid hop
    have HX := Lib.hid (show r = if rc = 0 then ((⟨rps, rqs, rf⟩ : AOut), ((mget X.bd n).getD 0), X') else (noOut, -1, X') from by rw [← HR.out]; simp [aDoes, hop])
    clear hop
    go_enter Try.func12, Try.ntmps12
    go_wp2_with fail
    obtain ⟨sg, hsg⟩ : ∃ i, (mget X.bd n).getD 0 = i := ⟨_, rfl⟩
    refine (bgSegment_z HZ.out HN.out hsg rfl).mono ?_
    rw [hsg] at HX
    generalize (mget X.bd n).isSome = sbo
    rintro e wS ⟨rfl, fS⟩
    have HZ := Lib.hid (HZ.out.no fS)
    have FA := Lib.hid (FA.out.trans fS)
    have RB := Lib.hid (fS.heap RB.out (fun h => h))
    have HB := Lib.hid (HB.out.no fS)
    have RA := Lib.hid (fS.heap RA.out (fun h => h))
    obtain ⟨a0, a1, a2, a3, a4⟩ := cells5s RA.out
    clear fS
    go_wp2_with fail
    refine (bgFromPort_z HZ.out HN.out HB.out hn0 hn1 HOP.out).mono ?_
    rintro e w4 ⟨po, pc, qo, qc, rfl, cp, cq, h4, f4⟩
    dsimp only at cp cq h4 ⊢
    have R4 := Lib.hid (f4.heap RB.out (fun h => h ZB.out))
    obtain ⟨s0, s1, s2⟩ := cells3 R4.out
    obtain ⟨z0, z1, z2⟩ := free3 R4.out
    have lt6 := lt_of_heap R4.out
    have R4a := Lib.hid (f4.heap RA.out (fun h => h ZA.out))
    by_cases hc : rc = 0
    · subst hc
      have fin := does_end (o := ⟨rps, rqs, rf⟩) (s := sg) FA.out ZS.out ZB.out h4 f4 R4.out cp cq (((frIs3 w4 (w.heap.size + 1) (.slice po rps.length pc) (.slice qo rqs.length qc) (.bool rf)).alloc (.cells #[.slice po rps.length pc, .slice qo rqs.length qc, .bool rf] 34)))
      have hz := (((Fr.refl No _).alloc (.cells #[.slice po rps.length pc, .slice qo rqs.length qc, .bool rf] 34))).heap (set3 R4.out (.slice po rps.length pc) (.slice qo rqs.length qc) (.bool rf)) (fun h => h)
      have hx := HX.out
      rw [if_pos rfl] at hx
      rw [← hx] at fin
      have FIN := Lib.hid fin
      have HQ := Lib.hid hz
      clear h4 f4 fin hz hx cp cq
      go_wp2_with fail
      have fin := FIN.out
      have hz := HQ.out
      clear s0 s1 s2 z0 z1 z2 FIN HQ
      generalize World.alloc _ _ = wq at fin hz ⊢
      obtain ⟨s0, s1, s2⟩ := cells3 hz
      refine bodyPost_ret (v := .tuple #[.agg #[.slice po rps.length pc, .slice qo rqs.length qc, .bool rf], .int .i64 sg]) (by simp [results, Try.results12, go_sem, s0, s1, s2]) rfl ?_
      exact fin
    · have hc' : (rc == 0) = false := by simpa using hc
      have fin := does_end (o := noOut) (s := -1) FA.out ZS.out ZB.out (h4.less (fun k hk => by rcases hk with hk | ⟨a, ha, -⟩ | ⟨a, ha, -⟩; exact .inl hk; cases ha; cases ha)) f4 R4.out (OI.nil _) (OI.nil _) ((frIs3 w4 (w.heap.size + 1) (.slice none 0 0) (.slice none 0 0) (.bool false)).alloc (.cells #[.slice po rps.length pc, .slice qo rqs.length qc, .bool rf] 34))
      have hz := ((Fr.refl No _).alloc (.cells #[.slice po rps.length pc, .slice qo rqs.length qc, .bool rf] 34)).heap (set3 R4.out (.slice none 0 0) (.slice none 0 0) (.bool false)) (fun h => h)
      have hx := HX.out
      rw [if_neg hc] at hx
      rw [← hx] at fin
      have FIN := Lib.hid fin
      have HQ := Lib.hid hz
      clear h4 f4 fin hz hx cp cq hc
      go_wp2_with fail
      have fin := FIN.out
      have hz := HQ.out
      clear s0 s1 s2 z0 z1 z2 FIN HQ
      generalize World.alloc _ _ = wq at fin hz ⊢
      obtain ⟨s0, s1, s2⟩ := cells3 hz
      refine bodyPost_ret (v := .tuple #[.agg #[.slice none 0 0, .slice none 0 0, .bool false], .int .i64 (-1)]) (by simp [results, Try.results12, go_sem, s0, s1, s2]) rfl ?_
      exact fin
  by_cases k6 : kd = 6
  · subst k6
    obtain ⟨⟨⟨rps, rqs, rf⟩, rc, X'⟩, hop⟩ : ∃ q, aFromPort room life X n bs now = q := ⟨_, rfl⟩
    have HOP := Lib.hid hop
    have HX := Lib.hid (show r = if rc = 0 then ((⟨rps, rqs, rf⟩ : AOut), ((mget X.bd n).getD 0), X') else (noOut, -1, X') from by rw [← HR.out]; simp [aDoes, hop])
    clear hop
    go_enter Try.func12, Try.ntmps12
    go_wp2_with fail
    obtain ⟨sg, hsg⟩ : ∃ i, (mget X.bd n).getD 0 = i := ⟨_, rfl⟩
    refine (bgSegment_z HZ.out HN.out hsg rfl).mono ?_
    rw [hsg] at HX
    generalize (mget X.bd n).isSome = sbo
    rintro e wS ⟨rfl, fS⟩
    have HZ := Lib.hid (HZ.out.no fS)
    have FA := Lib.hid (FA.out.trans fS)
    have RB := Lib.hid (fS.heap RB.out (fun h => h))
    have HB := Lib.hid (HB.out.no fS)
    have RA := Lib.hid (fS.heap RA.out (fun h => h))
    obtain ⟨a0, a1, a2, a3, a4⟩ := cells5s RA.out
    clear fS
    go_wp2_with fail
    refine (bgFromPort_z HZ.out HN.out HB.out hn0 hn1 HOP.out).mono ?_
    rintro e w4 ⟨po, pc, qo, qc, rfl, cp, cq, h4, f4⟩
    dsimp only at cp cq h4 ⊢
    have R4 := Lib.hid (f4.heap RB.out (fun h => h ZB.out))
    obtain ⟨s0, s1, s2⟩ := cells3 R4.out
    obtain ⟨z0, z1, z2⟩ := free3 R4.out
    have lt6 := lt_of_heap R4.out
    have R4a := Lib.hid (f4.heap RA.out (fun h => h ZA.out))
    by_cases hc : rc = 0
    · subst hc
      have fin := does_end (o := ⟨rps, rqs, rf⟩) (s := sg) FA.out ZS.out ZB.out h4 f4 R4.out cp cq (((frIs3 w4 (w.heap.size + 1) (.slice po rps.length pc) (.slice qo rqs.length qc) (.bool rf)).alloc (.cells #[.slice po rps.length pc, .slice qo rqs.length qc, .bool rf] 34)))
      have hz := (((Fr.refl No _).alloc (.cells #[.slice po rps.length pc, .slice qo rqs.length qc, .bool rf] 34))).heap (set3 R4.out (.slice po rps.length pc) (.slice qo rqs.length qc) (.bool rf)) (fun h => h)
      have hx := HX.out
      rw [if_pos rfl] at hx
      rw [← hx] at fin
      have FIN := Lib.hid fin
      have HQ := Lib.hid hz
      clear h4 f4 fin hz hx cp cq
      go_wp2_with fail
      have fin := FIN.out
      have hz := HQ.out
      clear s0 s1 s2 z0 z1 z2 FIN HQ
      generalize World.alloc _ _ = wq at fin hz ⊢
      obtain ⟨s0, s1, s2⟩ := cells3 hz
      refine bodyPost_ret (v := .tuple #[.agg #[.slice po rps.length pc, .slice qo rqs.length qc, .bool rf], .int .i64 sg]) (by simp [results, Try.results12, go_sem, s0, s1, s2]) rfl ?_
      exact fin
    · have hc' : (rc == 0) = false := by simpa using hc
      have fin := does_end (o := noOut) (s := -1) FA.out ZS.out ZB.out (h4.less (fun k hk => by rcases hk with hk | ⟨a, ha, -⟩ | ⟨a, ha, -⟩; exact .inl hk; cases ha; cases ha)) f4 R4.out (OI.nil _) (OI.nil _) ((frIs3 w4 (w.heap.size + 1) (.slice none 0 0) (.slice none 0 0) (.bool false)).alloc (.cells #[.slice po rps.length pc, .slice qo rqs.length qc, .bool rf] 34))
      have hz := ((Fr.refl No _).alloc (.cells #[.slice po rps.length pc, .slice qo rqs.length qc, .bool rf] 34)).heap (set3 R4.out (.slice none 0 0) (.slice none 0 0) (.bool false)) (fun h => h)
      have hx := HX.out
      rw [if_neg hc] at hx
      rw [← hx] at fin
      have FIN := Lib.hid fin
      have HQ := Lib.hid hz
      clear h4 f4 fin hz hx cp cq hc
      go_wp2_with fail
      have fin := FIN.out
      have hz := HQ.out
      clear s0 s1 s2 z0 z1 z2 FIN HQ
      generalize World.alloc _ _ = wq at fin hz ⊢
      obtain ⟨s0, s1, s2⟩ := cells3 hz
      refine bodyPost_ret (v := .tuple #[.agg #[.slice none 0 0, .slice none 0 0, .bool false], .int .i64 (-1)]) (by simp [results, Try.results12, go_sem, s0, s1, s2]) rfl ?_
      exact fin
  by_cases k7 : kd = 7
  · subst k7
    obtain ⟨⟨⟨rps, rqs, rf⟩, rc, X'⟩, hop⟩ : ∃ q, aFromPort room life X n bs now = q := ⟨_, rfl⟩
    have HOP := Lib.hid hop
    have HX := Lib.hid (show r = if rc = 0 then ((⟨rps, rqs, rf⟩ : AOut), ((mget X.bd n).getD 0), X') else (noOut, -1, X') from by rw [← HR.out]; simp [aDoes, hop])
    clear hop
    go_enter Try.func12, Try.ntmps12
    go_wp2_with fail
    obtain ⟨sg, hsg⟩ : ∃ i, (mget X.bd n).getD 0 = i := ⟨_, rfl⟩
    refine (bgSegment_z HZ.out HN.out hsg rfl).mono ?_
    rw [hsg] at HX
    generalize (mget X.bd n).isSome = sbo
    rintro e wS ⟨rfl, fS⟩
    have HZ := Lib.hid (HZ.out.no fS)
    have FA := Lib.hid (FA.out.trans fS)
    have RB := Lib.hid (fS.heap RB.out (fun h => h))
    have HB := Lib.hid (HB.out.no fS)
    have RA := Lib.hid (fS.heap RA.out (fun h => h))
    obtain ⟨a0, a1, a2, a3, a4⟩ := cells5s RA.out
    clear fS
    go_wp2_with fail
    refine (bgFromPort_z HZ.out HN.out HB.out hn0 hn1 HOP.out).mono ?_
    rintro e w4 ⟨po, pc, qo, qc, rfl, cp, cq, h4, f4⟩
    dsimp only at cp cq h4 ⊢
    have R4 := Lib.hid (f4.heap RB.out (fun h => h ZB.out))
    obtain ⟨s0, s1, s2⟩ := cells3 R4.out
    obtain ⟨z0, z1, z2⟩ := free3 R4.out
    have lt6 := lt_of_heap R4.out
    have R4a := Lib.hid (f4.heap RA.out (fun h => h ZA.out))
    by_cases hc : rc = 0
    · subst hc
      have fin := does_end (o := ⟨rps, rqs, rf⟩) (s := sg) FA.out ZS.out ZB.out h4 f4 R4.out cp cq (((frIs3 w4 (w.heap.size + 1) (.slice po rps.length pc) (.slice qo rqs.length qc) (.bool rf)).alloc (.cells #[.slice po rps.length pc, .slice qo rqs.length qc, .bool rf] 34)))
      have hz := (((Fr.refl No _).alloc (.cells #[.slice po rps.length pc, .slice qo rqs.length qc, .bool rf] 34))).heap (set3 R4.out (.slice po rps.length pc) (.slice qo rqs.length qc) (.bool rf)) (fun h => h)
      have hx := HX.out
      rw [if_pos rfl] at hx
      rw [← hx] at fin
      have FIN := Lib.hid fin
      have HQ := Lib.hid hz
      clear h4 f4 fin hz hx cp cq
      go_wp2_with fail
      have fin := FIN.out
      have hz := HQ.out
      clear s0 s1 s2 z0 z1 z2 FIN HQ
      generalize World.alloc _ _ = wq at fin hz ⊢
      obtain ⟨s0, s1, s2⟩ := cells3 hz
      refine bodyPost_ret (v := .tuple #[.agg #[.slice po rps.length pc, .slice qo rqs.length qc, .bool rf], .int .i64 sg]) (by simp [results, Try.results12, go_sem, s0, s1, s2]) rfl ?_
      exact fin
    · have hc' : (rc == 0) = false := by simpa using hc
      have fin := does_end (o := noOut) (s := -1) FA.out ZS.out ZB.out (h4.less (fun k hk => by rcases hk with hk | ⟨a, ha, -⟩ | ⟨a, ha, -⟩; exact .inl hk; cases ha; cases ha)) f4 R4.out (OI.nil _) (OI.nil _) ((frIs3 w4 (w.heap.size + 1) (.slice none 0 0) (.slice none 0 0) (.bool false)).alloc (.cells #[.slice po rps.length pc, .slice qo rqs.length qc, .bool rf] 34))
      have hz := ((Fr.refl No _).alloc (.cells #[.slice po rps.length pc, .slice qo rqs.length qc, .bool rf] 34)).heap (set3 R4.out (.slice none 0 0) (.slice none 0 0) (.bool false)) (fun h => h)
      have hx := HX.out
      rw [if_neg hc] at hx
      rw [← hx] at fin
      have FIN := Lib.hid fin
      have HQ := Lib.hid hz
      clear h4 f4 fin hz hx cp cq hc
      go_wp2_with fail
      have fin := FIN.out
      have hz := HQ.out
      clear s0 s1 s2 z0 z1 z2 FIN HQ
      generalize World.alloc _ _ = wq at fin hz ⊢
      obtain ⟨s0, s1, s2⟩ := cells3 hz
      refine bodyPost_ret (v := .tuple #[.agg #[.slice none 0 0, .slice none 0 0, .bool false], .int .i64 (-1)]) (by simp [results, Try.results12, go_sem, s0, s1, s2]) rfl ?_
      exact fin
  by_cases k8 : kd = 8
  · subst k8
    obtain ⟨⟨⟨rps, rqs, rf⟩, rc, X'⟩, hop⟩ : ∃ q, aFromTunnel room life X s n bs now = q := ⟨_, rfl⟩
    have HOP := Lib.hid hop
    have HX := Lib.hid (show r = if rc = 0 then ((⟨rps, rqs, rf⟩ : AOut), s, X') else (noOut, -1, X') from by rw [← HR.out]; simp [aDoes, hop])
    clear hop
    go_enter Try.func12, Try.ntmps12
    go_wp2_with fail
    refine (bgFromTunnel_z HZ.out (i := s) HN.out HB.out hn0 hn1 HOP.out).mono ?_
    rintro e w4 ⟨po, pc, qo, qc, rfl, cp, cq, h4, f4⟩
    dsimp only at cp cq h4 ⊢
    have R4 := Lib.hid (f4.heap RB.out (fun h => h ZB.out))
    obtain ⟨s0, s1, s2⟩ := cells3 R4.out
    obtain ⟨z0, z1, z2⟩ := free3 R4.out
    have lt6 := lt_of_heap R4.out
    have R4a := Lib.hid (f4.heap RA.out (fun h => h ZA.out))
    by_cases hc : rc = 0
    · subst hc
      have fin := does_end (o := ⟨rps, rqs, rf⟩) (s := s) FA.out ZS.out ZB.out h4 f4 R4.out cp cq (((frIs3 w4 (w.heap.size + 1) (.slice po rps.length pc) (.slice qo rqs.length qc) (.bool rf)).alloc (.cells #[.slice po rps.length pc, .slice qo rqs.length qc, .bool rf] 34)).drew)
      have hz := (((Fr.refl No _).alloc (.cells #[.slice po rps.length pc, .slice qo rqs.length qc, .bool rf] 34)).drew).heap (set3 R4.out (.slice po rps.length pc) (.slice qo rqs.length qc) (.bool rf)) (fun h => h)
      have hx := HX.out
      rw [if_pos rfl] at hx
      rw [← hx] at fin
      have FIN := Lib.hid fin
      have HQ := Lib.hid hz
      clear h4 f4 fin hz hx cp cq
      go_wp2_with fail
      obtain ⟨a0, a1, a2, a3, a4⟩ := cells5s R4a.out
      have o2 := fun o => al_cell a2 o
      have t0 := fun o => al_cell s0 o
      have t1 := fun o => al_cell s1 o
      have t2 := fun o => al_cell s2 o
      have y0 := fun o => (free3 (((Fr.refl No w4).alloc o).heap R4.out (fun h => h))).1
      have y1 := fun o => (free3 (((Fr.refl No w4).alloc o).heap R4.out (fun h => h))).2.1
      have y2 := fun o => (free3 (((Fr.refl No w4).alloc o).heap R4.out (fun h => h))).2.2
      have o3 := fun o => al_cell ((frIs3 w4 (w.heap.size + 1) (.slice po rps.length pc) (.slice qo rqs.length qc) (.bool rf)).cell a2 (fun e => by simp only [Is] at e; omega)) o
      go_region
      clear o3 o2 t0 t1 t2 y0 y1 y2 a0 a1 a2 a3 a4
      go_wp2_with fail
      have fin := FIN.out
      have hz := HQ.out
      clear s0 s1 s2 z0 z1 z2 FIN HQ
      generalize World.drew _ = wq at fin hz ⊢
      obtain ⟨s0, s1, s2⟩ := cells3 hz
      refine bodyPost_ret (v := .tuple #[.agg #[.slice po rps.length pc, .slice qo rqs.length qc, .bool rf], .int .i64 s]) (by simp [results, Try.results12, go_sem, s0, s1, s2]) rfl ?_
      exact fin
    · have hc' : (rc == 0) = false := by simpa using hc
      have fin := does_end (o := noOut) (s := -1) FA.out ZS.out ZB.out (h4.less (fun k hk => by rcases hk with hk | ⟨a, ha, -⟩ | ⟨a, ha, -⟩; exact .inl hk; cases ha; cases ha)) f4 R4.out (OI.nil _) (OI.nil _) ((frIs3 w4 (w.heap.size + 1) (.slice none 0 0) (.slice none 0 0) (.bool false)).alloc (.cells #[.slice po rps.length pc, .slice qo rqs.length qc, .bool rf] 34))
      have hz := ((Fr.refl No _).alloc (.cells #[.slice po rps.length pc, .slice qo rqs.length qc, .bool rf] 34)).heap (set3 R4.out (.slice none 0 0) (.slice none 0 0) (.bool false)) (fun h => h)
      have hx := HX.out
      rw [if_neg hc] at hx
      rw [← hx] at fin
      have FIN := Lib.hid fin
      have HQ := Lib.hid hz
      clear h4 f4 fin hz hx cp cq hc
      go_wp2_with fail
      have fin := FIN.out
      have hz := HQ.out
      clear s0 s1 s2 z0 z1 z2 FIN HQ
      generalize World.alloc _ _ = wq at fin hz ⊢
      obtain ⟨s0, s1, s2⟩ := cells3 hz
      refine bodyPost_ret (v := .tuple #[.agg #[.slice none 0 0, .slice none 0 0, .bool false], .int .i64 (-1)]) (by simp [results, Try.results12, go_sem, s0, s1, s2]) rfl ?_
      exact fin
  by_cases k9 : kd = 9
  · subst k9
    obtain ⟨⟨⟨rps, rqs, rf⟩, rc, X'⟩, hop⟩ : ∃ q, aFromTunnel room life X s n bs now = q := ⟨_, rfl⟩
    have HOP := Lib.hid hop
    have HX := Lib.hid (show r = if rc = 0 then ((⟨rps, rqs, rf⟩ : AOut), s, X') else (noOut, -1, X') from by rw [← HR.out]; simp [aDoes, hop])
    clear hop
    go_enter Try.func12, Try.ntmps12
    go_wp2_with fail
    refine (bgFromTunnel_z HZ.out (i := s) HN.out HB.out hn0 hn1 HOP.out).mono ?_
    rintro e w4 ⟨po, pc, qo, qc, rfl, cp, cq, h4, f4⟩
    dsimp only at cp cq h4 ⊢
    have R4 := Lib.hid (f4.heap RB.out (fun h => h ZB.out))
    obtain ⟨s0, s1, s2⟩ := cells3 R4.out
    obtain ⟨z0, z1, z2⟩ := free3 R4.out
    have lt6 := lt_of_heap R4.out
    have R4a := Lib.hid (f4.heap RA.out (fun h => h ZA.out))
    by_cases hc : rc = 0
    · subst hc
      have fin := does_end (o := ⟨rps, rqs, rf⟩) (s := s) FA.out ZS.out ZB.out h4 f4 R4.out cp cq (((frIs3 w4 (w.heap.size + 1) (.slice po rps.length pc) (.slice qo rqs.length qc) (.bool rf)).alloc (.cells #[.slice po rps.length pc, .slice qo rqs.length qc, .bool rf] 34)).drew)
      have hz := (((Fr.refl No _).alloc (.cells #[.slice po rps.length pc, .slice qo rqs.length qc, .bool rf] 34)).drew).heap (set3 R4.out (.slice po rps.length pc) (.slice qo rqs.length qc) (.bool rf)) (fun h => h)
      have hx := HX.out
      rw [if_pos rfl] at hx
      rw [← hx] at fin
      have FIN := Lib.hid fin
      have HQ := Lib.hid hz
      clear h4 f4 fin hz hx cp cq
      go_wp2_with fail
      obtain ⟨a0, a1, a2, a3, a4⟩ := cells5s R4a.out
      have o2 := fun o => al_cell a2 o
      have t0 := fun o => al_cell s0 o
      have t1 := fun o => al_cell s1 o
      have t2 := fun o => al_cell s2 o
      have y0 := fun o => (free3 (((Fr.refl No w4).alloc o).heap R4.out (fun h => h))).1
      have y1 := fun o => (free3 (((Fr.refl No w4).alloc o).heap R4.out (fun h => h))).2.1
      have y2 := fun o => (free3 (((Fr.refl No w4).alloc o).heap R4.out (fun h => h))).2.2
      have o3 := fun o => al_cell ((frIs3 w4 (w.heap.size + 1) (.slice po rps.length pc) (.slice qo rqs.length qc) (.bool rf)).cell a2 (fun e => by simp only [Is] at e; omega)) o
      go_region
      clear o3 o2 t0 t1 t2 y0 y1 y2 a0 a1 a2 a3 a4
      go_wp2_with fail
      have fin := FIN.out
      have hz := HQ.out
      clear s0 s1 s2 z0 z1 z2 FIN HQ
      generalize World.drew _ = wq at fin hz ⊢
      obtain ⟨s0, s1, s2⟩ := cells3 hz
      refine bodyPost_ret (v := .tuple #[.agg #[.slice po rps.length pc, .slice qo rqs.length qc, .bool rf], .int .i64 s]) (by simp [results, Try.results12, go_sem, s0, s1, s2]) rfl ?_
      exact fin
    · have hc' : (rc == 0) = false := by simpa using hc
      have fin := does_end (o := noOut) (s := -1) FA.out ZS.out ZB.out (h4.less (fun k hk => by rcases hk with hk | ⟨a, ha, -⟩ | ⟨a, ha, -⟩; exact .inl hk; cases ha; cases ha)) f4 R4.out (OI.nil _) (OI.nil _) ((frIs3 w4 (w.heap.size + 1) (.slice none 0 0) (.slice none 0 0) (.bool false)).alloc (.cells #[.slice po rps.length pc, .slice qo rqs.length qc, .bool rf] 34))
      have hz := ((Fr.refl No _).alloc (.cells #[.slice po rps.length pc, .slice qo rqs.length qc, .bool rf] 34)).heap (set3 R4.out (.slice none 0 0) (.slice none 0 0) (.bool false)) (fun h => h)
      have hx := HX.out
      rw [if_neg hc] at hx
      rw [← hx] at fin
      have FIN := Lib.hid fin
      have HQ := Lib.hid hz
      clear h4 f4 fin hz hx cp cq hc
      go_wp2_with fail
      have fin := FIN.out
      have hz := HQ.out
      clear s0 s1 s2 z0 z1 z2 FIN HQ
      generalize World.alloc _ _ = wq at fin hz ⊢
      obtain ⟨s0, s1, s2⟩ := cells3 hz
      refine bodyPost_ret (v := .tuple #[.agg #[.slice none 0 0, .slice none 0 0, .bool false], .int .i64 (-1)]) (by simp [results, Try.results12, go_sem, s0, s1, s2]) rfl ?_
      exact fin
  have HX := Lib.hid (show r = (noOut, -1, X) from by rw [← HR.out]; simp [aDoes, k0, k1, k2, k3, k4, k5, k6, k7, k8, k9])
  have e0 : (kd == 0) = false := by simpa using k0
  have e1 : (kd == 1) = false := by simpa using k1
  have e2 : (kd == 2) = false := by simpa using k2
  have e3 : (kd == 3) = false := by simpa using k3
  have e4 : (kd == 4) = false := by simpa using k4
  have e5 : (kd == 5) = false := by simpa using k5
  have e6 : (kd == 6) = false := by simpa using k6
  have e7 : (kd == 7) = false := by simpa using k7
  have e8 : (kd == 8) = false := by simpa using k8
  have e9 : (kd == 9) = false := by simpa using k9
  clear k0 k1 k2 k3 k4 k5 k6 k7 k8 k9
  have hz := RB.out
  have fin := does_end (o := noOut) (s := -1) FA.out ZS.out ZB.out HZ.out.nones (Fr.refl _ _) RB.out (OI.nil _) (OI.nil _) (Fr.refl _ _)
  rw [← HX.out] at fin
  have FIN := Lib.hid fin
  have HQ := Lib.hid hz
  clear fin hz
  go_enter Try.func12, Try.ntmps12
  go_wp2_with fail
  have fin := FIN.out
  have hz := HQ.out
  clear FIN HQ FA RA RB HZ HB
  generalize World.alloc _ _ = wq at fin hz ⊢
  obtain ⟨s0, s1, s2⟩ := cells3 hz
  refine bodyPost_ret (v := .tuple #[.agg #[.slice none 0 0, .slice none 0 0, .bool false], .int .i64 (-1)]) (by simp [results, Try.results12, go_sem, s0, s1, s2]) rfl ?_
  exact fin
end Go.Proofs.Yticebdoiahadoaa
