/- tunnel: find. -/
import Derived.Test.YthoppkklooomgaaTnK
namespace Go.Proofs.Ythoppkklooomgaa
open Go.RowKit
set_option linter.unusedVariables false
set_option linter.unusedSimpArgs false
theorem isEnd_eqE (t : Tn) (kind : Int) (loc pee : Nat) : eqE t.kind (t.loc : Int) (t.pee : Int) kind (loc : Int) (pee : Int) = isEnd kind loc pee t := by
  unfold eqE isEnd
  rw [decide_eq_decide]
  omega
def FindOk (w : World) (r : (Int × TE) ⊕ Int) (e : Ending) (w' : World) : Prop :=
  Fr No w w' ∧ match r with
    | .inl p => e = .returned (.tuple #[.int .i64 p.1, .nilIface])
    | .inr c => e = .returned (.tuple #[.int .i64 0, .iface 32 (.int .i64 c)])
theorem isIt_same {kind : Int} {loc pee id : Nat} {keyed : Bool} {t u : Tn} (h : isIt kind loc pee id keyed t = true) (k : isIt kind loc pee id keyed u = true) : same4 t u = true := by
  unfold isIt isEnd at h k
  unfold same4 same3
  simp only [Bool.and_eq_true, decide_eq_true_eq] at *
  omega
theorem TA.find_some {A : TA} (hok : A.Ok) {kind : Int} {loc pee id : Nat} {keyed : Bool} {p : Int × TE} (hp : p ∈ A.l) (h : isIt kind loc pee id keyed p.2.t = true) : A.find kind loc pee id keyed = .inl p := by
  unfold TA.find
  cases hf : A.l.find? (fun p => isIt kind loc pee id keyed p.2.t) with
  | none => rw [List.find?_eq_none] at hf; exact absurd h (hf p hp)
  | some q =>
    have h1 := List.find?_some hf
    have h2 := List.mem_of_find?_eq_some hf
    rw [hok.one q h2 p hp (isIt_same h1 h)]
theorem TA.find_none {A : TA} {kind : Int} {loc pee id : Nat} {keyed : Bool} (h : ∀ p ∈ A.l, isIt kind loc pee id keyed p.2.t = false) {c : Int} (hc : (c = 10 ∧ ∃ p ∈ A.l, isEnd kind loc pee p.2.t = true) ∨ (c = 9 ∧ ∀ p ∈ A.l, isEnd kind loc pee p.2.t = false)) :
    A.find kind loc pee id keyed = .inr c := by
  unfold TA.find
  have hf : A.l.find? (fun p => isIt kind loc pee id keyed p.2.t) = none := by
    rw [List.find?_eq_none]
    intro p hp
    rw [h p hp]; simp
  rw [hf]
  rcases hc with ⟨rfl, p, hp, h2⟩ | ⟨rfl, h2⟩
  · have : (A.l.any fun p => isEnd kind loc pee p.2.t) = true := List.any_eq_true.2 ⟨p, hp, h2⟩
    simp only [this, if_true]
  · have : (A.l.any fun p => isEnd kind loc pee p.2.t) = false := by
      rw [Bool.eq_false_iff]
      intro hc
      obtain ⟨p, hp, hb⟩ := List.any_eq_true.1 hc
      rw [h2 p hp] at hb; cases hb
    simp [this]

set_option maxRecDepth 100000 in
set_option maxHeartbeats 3200000 in
theorem tnFind_any {S : Nat → Prop} {w : World} {tb : Nat} {A : TA} (h : Tb S w tb A) (kind : Int) (loc pee id : Nat) (keyed : Bool) (k0 : Int) (oo : Option Addr) (on oc : Nat) (sq : Bool) (sn : Int) (fo : Option Addr) (fn fc : Nat) :
    Calls Try.prog 26 #[.pointer (some ⟨tb, 0, none⟩), .agg #[.int .i64 kind, .int .u32 (loc : Int), .int .u32 (pee : Int)], .agg #[.int .i64 k0, .int .u32 (id : Int), .bool keyed, .slice oo on oc, .bool sq, .int .u32 sn, .slice fo fn fc]] w
      (FindOk w (A.find kind loc pee id keyed)) := by
  obtain ⟨mb, L, h⟩ := h
  have H := Lib.hid h
  have HS := Lib.hid h.lt
  obtain ⟨R, hR⟩ : ∃ R, A.find kind loc pee id keyed = R := ⟨_, rfl⟩
  rw [hR]
  have HR := Lib.hid hR
  clear h hR
  have f1 := ((Fr.refl No w).alloc (.cells #[.int .i64 kind, .int .u32 (loc : Int), .int .u32 (pee : Int)] 72)).alloc (.cells #[.int .i64 k0, .int .u32 (id : Int), .bool keyed, .slice oo on oc, .bool sq, .int .u32 sn, .slice fo fn fc] 83)
  have X1 := Lib.hid (((Fr.refl No _).alloc (.cells #[.int .i64 k0, .int .u32 (id : Int), .bool keyed, .slice oo on oc, .bool sq, .int .u32 sn, .slice fo fn fc] 83)).heap (heap_alloc_new w (.cells #[.int .i64 kind, .int .u32 (loc : Int), .int .u32 (pee : Int)] 72)) (fun h => h))
  have Y1 := Lib.hid (heap_alloc_new (w.alloc (.cells #[.int .i64 kind, .int .u32 (loc : Int), .int .u32 (pee : Int)] 72)) (.cells #[.int .i64 k0, .int .u32 (id : Int), .bool keyed, .slice oo on oc, .bool sq, .int .u32 sn, .slice fo fn fc] 83))
  rw [show (w.alloc (.cells #[.int .i64 kind, .int .u32 (loc : Int), .int .u32 (pee : Int)] 72)).heap.size = w.heap.size + 1 by simp] at Y1
  have hz1 : ((w.alloc (.cells #[.int .i64 kind, .int .u32 (loc : Int), .int .u32 (pee : Int)] 72)).alloc (.cells #[.int .i64 k0, .int .u32 (id : Int), .bool keyed, .slice oo on oc, .bool sq, .int .u32 sn, .slice fo fn fc] 83)).heap.size = w.heap.size + 2 := by simp
  have F1 := Lib.hid f1
  have H1 := Lib.hid (H.out.no f1)
  clear f1
  go_enter Try.func26, Try.ntmps26
  go_upto_region 1 with fail
  generalize (w.alloc _).alloc _ = w1 at *
  have hza : w.heap.size + 2 ≤ w1.heap.size := by omega
  have hzb : w1.heap.size ≤ w.heap.size + 2 := by omega
  clear hz1
  obtain ⟨c0, -⟩ := H1.out.cells
  go_wp2_with (first
    | (at_range; refine wpList_range_mp rfl _ 67 rfl Try.underlying67 rfl H1.out.mp ?_; intro w2 hrg2 hg2 hs2))
  have F2 := Lib.hid (F1.out.then_no (Fr.of_gb (S := No) hg2 (fun k e => by cases e)))
  have R2 := Lib.hid hrg2
  have X2 := Lib.hid ((Fr.of_gb (S := No) hg2 (fun k e => by cases e)).heap X1.out (fun h => h))
  have Y2 := Lib.hid ((Fr.of_gb (S := No) hg2 (fun k e => by cases e)).heap Y1.out (fun h => h))
  have hz2 : w.heap.size + 3 ≤ w2.heap.size := by omega
  clear hrg2 hg2 hs2 X1 Y1 c0
  go_wp2_with fail
  go_frame
  go_loopw [8, 9, 10] (fun s8 s9 s10 wr => ∃ (left : List (Int × Nat)) (c : Int), Rg okK evK evB wr mb w1.heap.size (L.map prT) left ∧ (∀ q ∈ left, q ∈ L.map prT) ∧ s8 = .int .i64 c ∧ (∀ p ∈ L, prT p ∉ left → isIt kind loc pee id keyed p.2.2.t = false) ∧
      ((c = 10 ∧ ∃ p ∈ L, isEnd kind loc pee p.2.2.t = true) ∨ (c = 9 ∧ ∀ p ∈ L, prT p ∉ left → isEnd kind loc pee p.2.2.t = false)) ∧ Fr No w wr ∧ w2.heap.size ≤ wr.heap.size ∧
      wr.heap[w.heap.size]? = some (.cells #[.int .i64 kind, .int .u32 (loc : Int), .int .u32 (pee : Int)] 72 (0, 0)) ∧
      wr.heap[w.heap.size + 1]? = some (.cells #[.int .i64 k0, .int .u32 (id : Int), .bool keyed, .slice oo on oc, .bool sq, .int .u32 sn, .slice fo fn fc] 83 (0, 0))) (fun _ _ _ wr => wr.rangeLeft mb w1.heap.size)
  case atStart => exact ⟨L.map prT, 9, R2.out, fun q h => h, rfl, fun p hp hq => absurd (List.mem_map.2 ⟨p, hp, rfl⟩) hq, .inr ⟨rfl, fun p hp hq => absurd (List.mem_map.2 ⟨p, hp, rfl⟩) hq⟩, F2.out, Nat.le_refl _, X2.out, Y2.out⟩
  case round =>
    clear X2 Y2 F2 R2 H1 F1
    obtain ⟨left, c, hrg, hsub, rfl, hdone, hcc, hf, hsz, hx, hy⟩ := hrel
    have HG := Lib.hid hrg
    have HSB := Lib.hid hsub
    have HD := Lib.hid hdone
    have HC := Lib.hid hcc
    have G1 := Lib.hid hf
    have X1 := Lib.hid hx
    have Y1 := Lib.hid hy
    clear hrg hsub hdone hcc hf hx hy
    go_wp2_with (first
      | (at_next; refine wpList_next_mp rfl _ rfl keK rfl HG.out ?_ ?_))
    · intro hl0
      subst hl0
      have hR : R = .inr c := by
        rw [← HR.out]
        refine TA.find_none (fun p hp => ?_) ?_
        · rw [H.out.ab] at hp
          obtain ⟨p', hp', rfl⟩ := List.mem_map.1 hp
          exact HD.out p' hp' (by simp)
        · rcases HC.out with ⟨h1, p, hp, h2⟩ | ⟨h1, h2⟩
          · exact .inl ⟨h1, abT p, by rw [H.out.ab]; exact List.mem_map.2 ⟨p, hp, rfl⟩, h2⟩
          · refine .inr ⟨h1, fun p hp => ?_⟩
            rw [H.out.ab] at hp
            obtain ⟨p', hp', rfl⟩ := List.mem_map.1 hp
            exact h2 p' hp' (by simp)
      subst hR
      clear HR HC HD HG HSB
      go_wp2_with fail
      go_ret2
      exact ⟨G1.out, rfl⟩
    · intro n b w3 hq hrg3 hg3 hs3 hen
      obtain ⟨p, hpL, hpe⟩ := List.mem_map.1 (HSB.out _ hq)
      have hb : p.2.1 = b := (Prod.mk.inj hpe).2
      have hk : p.1 = n := (Prod.mk.inj hpe).1
      have f3 : Fr (Is w1.heap.size) wr w3 := Fr.of_gb hg3 (fun r e => by cases e; rfl)
      have G3 := Lib.hid (G1.out.then f3 (fun i hi (h : i = w1.heap.size) => by omega))
      obtain ⟨m, hm⟩ := H.out.ent p hpL
      have X3 := Lib.hid (f3.heap X1.out (fun h : w.heap.size = w1.heap.size => by omega))
      have Y3 := Lib.hid (f3.heap Y1.out (fun h : w.heap.size + 1 = w1.heap.size => by omega))
      have HM := Lib.hid hm
      have R3 := Lib.hid hrg3
      have HQ := Lib.hid hq
      have HB := Lib.hid hb
      have HKK := Lib.hid hk
      have HP := Lib.hid hpL
      have hlt : (mdel left n).length < left.length := by
        have := (perm_mdel HG.out.ndl hq).length_eq
        simp at this; omega
      have HLT := Lib.hid hlt
      have HRL := Lib.hid HG.out.left_eq
      have hsz3 : w2.heap.size ≤ w3.heap.size := by omega
      clear hq hrg3 hg3 hs3 hpL hpe hb hk f3 hm hlt X1 Y1 HG G1
      obtain ⟨e, hE⟩ : ∃ e, e = p.2.2 := ⟨_, rfl⟩
      rw [← hE, HB.out] at HM
      have HE := Lib.hid hE
      clear hE
      have HDN : Hid (∀ p' ∈ L, prT p' ∉ mdel left n → prT p' ∉ left ∨ p'.2.2 = e) := Lib.hid (fun p' hp' hq => by
        by_cases hin : prT p' ∈ left
        · right
          have hk' : p'.1 = n := by
            by_cases h : p'.1 = n
            · exact h
            · exact absurd (mem_mdel.2 ⟨hin, h⟩) hq
          have h1 := mget_of_mem H.out.nd (k := p.1) (v := p.2) HP.out
          have h2 := mget_of_mem H.out.nd (k := p.1) (v := p'.2) (by rw [HKK.out, ← hk']; exact hp')
          have h3 : p'.2 = p.2 := Option.some.inj (h2.symm.trans h1)
          rw [h3, HE.out]
        · exact .inl hin)
      simp only [evK, evB] at hen ⊢
      have SF : Hid (∀ W, Fr No w3 W → (W.cell? ⟨b, 0, none⟩ = some (.int .i64 e.t.kind) ∧ W.cell? ⟨b, 1, none⟩ = some (.int .u32 (e.t.loc : Int)) ∧ W.cell? ⟨b, 2, none⟩ = some (.int .u32 (e.t.pee : Int)) ∧ W.cell? ⟨b, 3, none⟩ = some (.int .u32 (e.t.id : Int)) ∧ W.cell? ⟨b, 4, none⟩ = some (.int .i64 e.t.seg) ∧ W.cell? ⟨b, 5, none⟩ = some (.slice m.oo m.on m.oc) ∧ W.cell? ⟨b, 6, none⟩ = some (.slice m.ko m.kn m.kc) ∧ W.cell? ⟨b, 7, none⟩ = some (.bool e.t.sum) ∧ W.cell? ⟨b, 8, none⟩ = some (.bool e.t.seq)) ∧
          (W.cell? ⟨w.heap.size, 0, none⟩ = some (.int .i64 kind) ∧ W.cell? ⟨w.heap.size, 1, none⟩ = some (.int .u32 (loc : Int)) ∧ W.cell? ⟨w.heap.size, 2, none⟩ = some (.int .u32 (pee : Int)))) := Lib.hid (fun W f => by
        obtain ⟨a0, a1, a2, a3, a4, a5, a6, a7, a8, -⟩ := cells11 ((G3.out.trans f).heap HM.out.box (fun h => h))
        exact ⟨⟨a0, a1, a2, a3, a4, a5, a6, a7, a8⟩, cells3 (f.heap X3.out (fun h => h))⟩)
      obtain ⟨⟨a0, a1, a2, a3, a4, a5, a6, a7, a8⟩, e0, e1, e2⟩ := SF.out _ (Fr.refl _ _)
      have NQ := neqEnds e.t.kind (e.t.loc : Int) (e.t.pee : Int) kind (loc : Int) (pee : Int)
      obtain ⟨se, hse⟩ : ∃ se, isEnd kind loc pee e.t = se := ⟨_, rfl⟩
      have q1 := (isEnd_eqE e.t kind loc pee).trans hse
      have HSE := Lib.hid hse
      simp only [q1] at NQ
      clear hse q1
      go_upto_region 5 with fail
      go_cut [27] (fun s27 wc => s27 = .bool (!se) ∧ Fr No w3 wc)
      case first =>
        go_region_held3 (fun W => (W.cell? ⟨b, 0, none⟩ = some (.int .i64 e.t.kind) ∧ W.cell? ⟨b, 1, none⟩ = some (.int .u32 (e.t.loc : Int)) ∧ W.cell? ⟨b, 2, none⟩ = some (.int .u32 (e.t.pee : Int)) ∧ W.cell? ⟨b, 3, none⟩ = some (.int .u32 (e.t.id : Int)) ∧ W.cell? ⟨b, 4, none⟩ = some (.int .i64 e.t.seg) ∧ W.cell? ⟨b, 5, none⟩ = some (.slice m.oo m.on m.oc) ∧ W.cell? ⟨b, 6, none⟩ = some (.slice m.ko m.kn m.kc) ∧ W.cell? ⟨b, 7, none⟩ = some (.bool e.t.sum) ∧ W.cell? ⟨b, 8, none⟩ = some (.bool e.t.seq)) ∧
          (W.cell? ⟨w.heap.size, 0, none⟩ = some (.int .i64 kind) ∧ W.cell? ⟨w.heap.size, 1, none⟩ = some (.int .u32 (loc : Int)) ∧ W.cell? ⟨w.heap.size, 2, none⟩ = some (.int .u32 (pee : Int))))
          (first | exact SF.out _ (Fr.refl _ _).drew | exact SF.out _ FQ1.out)
          ((go_at_call 21; ((with_reducible refine (tnEnds_any _ _ _ _ _ _ _ _ _ _ _ _ _ _).mono ?_); rintro r wq ⟨rfl, fq⟩); have FQ1 := Lib.hid ((Fr.refl No w3).drew.trans fq); clear fq))
        all_goals
          try go_wp2_with fail
          go_meet
          exact ⟨rfl, FQ1.out⟩
      case rest =>
        obtain ⟨rfl, fc⟩ := hcut
        obtain ⟨⟨a0, a1, a2, a3, a4, a5, a6, a7, a8⟩, e0, e1, e2⟩ := SF.out _ fc
        have GC := Lib.hid (G3.out.trans fc)
        have RC := Lib.hid (R3.out.fr fc (fun h => h) (fun h => h))
        have XC := Lib.hid (fc.heap X3.out (fun h => h))
        have YC := Lib.hid (fc.heap Y3.out (fun h => h))
        have hszc : w2.heap.size ≤ wc.heap.size := by have := fc.size; omega
        obtain ⟨y0, y1, y2, -⟩ := cells7 YC.out
        clear fc NQ hen R3 X3 Y3 SF
        cases se
        · have hit : isIt kind loc pee id keyed e.t = false := by unfold isIt; rw [HSE.out]; rfl
          have HIT := Lib.hid hit
          clear hit
          go_wp2_with fail
          go_roundw
          case rel =>
            refine ⟨mdel left n, c, RC.out, fun q hq => HSB.out q (mem_mdel.1 hq).1, rfl, fun p' hp' hq => ?_, ?_, GC.out, hszc, XC.out, YC.out⟩
            · rcases HDN.out p' hp' hq with h | h
              · exact HD.out p' hp' h
              · rw [h]; exact HIT.out
            · rcases HC.out with h | ⟨h1, h2⟩
              · exact .inl h
              · refine .inr ⟨h1, fun p' hp' hq => ?_⟩
                rcases HDN.out p' hp' hq with h | h
                · exact h2 p' hp' h
                · rw [h]; exact HSE.out
          case measure => rw [RC.out.left_eq, HRL.out]; exact HLT.out
        · obtain ⟨it, hit⟩ : ∃ it, (decide (e.t.id = id) && keyed) = it := ⟨_, rfl⟩
          have hisit : isIt kind loc pee id keyed e.t = it := by unfold isIt; rw [HSE.out, hit]; rfl
          have HIT := Lib.hid hisit
          have hit2 := Lib.hid hit
          clear hisit hit
          go_upto_region 6 with fail
          go_cut [39] (fun s39 wc2 => s39 = .bool it ∧ Fr No wc wc2)
          case first =>
            by_cases hid : e.t.id = id
            · have hb : ((e.t.id : Int) == (id : Int)) = true := by rw [beqNat]; simpa using hid
              have hki : keyed = it := by rw [← hit2.out]; simp [hid]
              subst hki
              clear hid
              go_quiet (fail)
              go_wp2
              go_meet
              exact ⟨rfl, (Fr.refl No wc).drewN _⟩
            · have hb : ((e.t.id : Int) == (id : Int)) = false := by rw [beqNat]; simpa using hid
              have hki : it = false := by rw [← hit2.out]; simp [hid]
              subst hki
              clear hid
              go_quiet (fail)
              go_wp2
              go_meet
              exact ⟨rfl, (Fr.refl No wc).drewN _⟩
          case rest =>
            obtain ⟨rfl, fd⟩ := hcut
            have G9 := Lib.hid (GC.out.trans fd)
            have R9 := Lib.hid (RC.out.fr fd (fun h => h) (fun h => h))
            have X9 := Lib.hid (fd.heap XC.out (fun h => h))
            have Y9 := Lib.hid (fd.heap YC.out (fun h => h))
            have hsz9 : w2.heap.size ≤ wc.heap.size := by have := fd.size; omega
            clear fd GC RC XC YC a0 a1 a2 a3 a4 a5 a6 a7 a8 e0 e1 e2 y0 y1 y2
            cases it
            · go_wp2_with fail
              go_roundw
              case rel =>
                refine ⟨mdel left n, 10, R9.out, fun q hq => HSB.out q (mem_mdel.1 hq).1, rfl, fun p' hp' hq => ?_, .inl ⟨rfl, p, HP.out, by rw [← HE.out]; exact HSE.out⟩, G9.out, hsz9, X9.out, Y9.out⟩
                rcases HDN.out p' hp' hq with h | h
                · exact HD.out p' hp' h
                · rw [h]; exact HIT.out
              case measure => rw [R9.out.left_eq, HRL.out]; exact HLT.out
            · have hR : R = .inl (n, e) := by
                rw [← HR.out]
                have hin : (n, e) ∈ A.l := by
                  rw [H.out.ab]
                  refine List.mem_map.2 ⟨p, HP.out, ?_⟩
                  show (p.1, p.2.2) = (n, e)
                  rw [HKK.out, ← HE.out]
                exact TA.find_some H.out.ok hin HIT.out
              subst hR
              clear HR HC HD HSB HDN
              go_wp2_with fail
              go_ret2
              exact ⟨G9.out, rfl⟩
end Go.Proofs.Ythoppkklooomgaa