/- fdb: List. -/
import Derived.Test.YtgmaelndhmnjiaaDoorFd4
import Derived.Shelf.SlSortCmp.NoneTotal
namespace Go.Proofs.YtgmaelndhmnjiaaDoor
open Go.RowKit Go.Shelf
set_option linter.unusedVariables false
set_option linter.unusedSimpArgs false

theorem info_fentry : (Tryd.prog.info? 60).map (fun i => (i.zero, i.size, i.bytes)) = some (some (.agg #[.int .u8 0, .int .u8 0, .int .u8 0, .int .u8 0, .int .u8 0, .int .u8 0, .bool false, .int .i64 0, .int .u64 0, .bool false]), 10, 40) := by kernel_rfl
/-- append at []Entry, of one. -/
theorem wpl_append_en {w : World} {ops : Array Oper} {rest : List Oper} {o : Oper} {a : Act} {Q : Exit → Act → World → Prop} (s x : Operand)
    (hgd : o.guard = none) (hop : o.op = .call { callee := .builtin .append, args := #[s, x], argTypes := #[36, 36] })
    {ao : Option Addr} {n cap : Nat} (hev : a.eval s = .slice ao n cap) {bo : Option Addr} {c : Nat} (hex : a.eval x = .slice bo 1 c)
    {xs : List Value} (r : En) (h1 : Own w 60 10 ao n cap xs) (h2 : Sl w bo 1 c (encE r)) (hb : n ≤ 1000000)
    (hK : ∀ ao' cap' w', Own w' 60 10 ao' (n + 1) cap' (xs ++ encE r) → Fr (At ao) w w' → (ao' = ao ∨ ∀ a, ao' = some a → w.heap.size ≤ a.block) →
      wpList Tryd.prog ops Q rest (a.put o.dst (.slice ao' (n + 1) cap')) w') :
    wpList Tryd.prog ops Q (o :: rest) a w := by
  obtain ⟨i0, hi, hz0, hz1, hz2⟩ := info_parts info_fentry
  refine wpList_append_U w hgd s x 36 hop 60 i0 _ 10 40 Tryd.underlying36 hi hz0 hz1 hz2 rfl (by decide) ao n cap hev bo 1 c hex xs h1 _ h2 rfl (by simp [encE, byteV, Value.oneCell'])
    (by omega) (by omega) ?_
  intro ao' cap' w' r1 r2 r3 _ r5
  exact hK ao' cap' w' r1 r2 r3
/-- The entry of a pair. -/
def enOf (L : FL) (q : Mac × Nat) : En := ((L.find? (fun p => decide (pr p = q))).map (·.2.2)).getD default
theorem enOf_mem {L : FL} {q : Mac × Nat} (h : q ∈ L.map pr) : ∃ p ∈ L, pr p = q ∧ enOf L q = p.2.2 := by
  obtain ⟨p, hp, rfl⟩ := List.mem_map.1 h
  unfold enOf
  cases hf : L.find? (fun p' => decide (pr p' = pr p)) with
  | none =>
    have := List.find?_eq_none.1 hf p hp
    simp at this
  | some p' => exact ⟨p', List.mem_of_find?_eq_some hf, by simpa using List.find?_some hf, rfl⟩
theorem enOf_map {L : FL} (nd : (L.map (·.1)).Nodup) : (L.map pr).map (enOf L) = L.map (·.2.2) := by
  rw [List.map_map]
  apply List.map_congr_left
  intro p hp
  obtain ⟨p', hp', he, hen⟩ := enOf_mem (List.mem_map.2 ⟨p, hp, rfl⟩ : pr p ∈ L.map pr)
  show enOf L (pr p) = _
  rw [hen]
  have hk : p'.1 = p.1 := (Prod.mk.inj he).1
  have : p' = p := by
    have h1 := mget_of_mem nd (k := p.1) (v := p.2) hp
    have h2 := mget_of_mem nd (k := p.1) (v := p'.2) (by rw [← hk]; exact hp')
    have h3 := Option.some.inj (h2.symm.trans h1)
    exact Prod.ext hk h3
  rw [this]

def EListP (w : World) (L : FL) (e : Ending) (w' : World) : Prop :=
  ∃ (ao : Option Addr) (n cap : Nat) (xs : List En), e = .returned (.slice ao n cap) ∧ n = xs.length ∧ xs.Perm (L.map (·.2.2)) ∧ xs.Pairwise (fun x y => ltE y x = false) ∧ Own w' 60 10 ao n cap (xs.flatMap encE) ∧ (∀ a, ao = some a → w.heap.size ≤ a.block) ∧ Fr No w w'

theorem fbSort_any {w : World} {ao : Option Addr} {n cap : Nat} {xs : List En} (hn : n = xs.length) (ho : Own w 60 10 ao n cap (xs.flatMap encE)) (hs : n ≤ 1000000) :
    Calls Tryd.prog 30 #[.slice ao n cap, .func (.func 31) #[] #[]] w fun e w' => e = .returned (.tuple #[]) ∧
      ∃ ys : List En, ys.Perm xs ∧ ys.Pairwise (fun x y => ltE y x = false) ∧ Own w' 60 10 ao n cap (ys.flatMap encE) ∧ Fr (At ao) w w' := by
  cases ao with
  | none =>
    have h0 := ho.nocap rfl
    have h1 := ho.le
    have hn0 : n = 0 := by omega
    have hx : xs = [] := List.eq_nil_of_length_eq_zero (by omega)
    subst hx hn0 h0
    have h := Go.Proofs.AnyF.slices_SortFunc_none sortFd none 0 (.func (.func 31) #[] #[]) w
    change Calls Tryd.prog 30 _ _ _ at h
    refine h.mono ?_
    rintro e w' ⟨rfl, rfl⟩
    exact ⟨rfl, [], List.Perm.refl _, List.Pairwise.nil, ho, Fr.refl _ _⟩
  | some a =>
    obtain ⟨ha, _⟩ := ho.row a rfl
    obtain ⟨blk, off, sp⟩ := a
    cases ha
    have h := sort_own sortFd (k := 10) (by omega) Tryd.isAgg60 Tryd.sizeOf60 (enc := encE) (fun _ => rfl) (fun x v hv => by simp [encE, byteV] at hv; rcases hv with rfl | rfl | rfl | rfl | rfl | rfl | rfl | rfl | rfl | rfl <;> rfl) cmpE swoE 31 #[]
      (enters_of Tryd.func31 (by kernel_rfl) rfl) hn ho hs (fun size w => cmpLaysE blk 0 size w)
    change Calls Tryd.prog 30 _ _ _ at h
    refine h.mono ?_
    rintro e w' ⟨rfl, ys, h1, h2, h3, h4⟩
    exact ⟨rfl, ys, h1, by rw [ltOf_E] at h2; exact h2, h3, h4.mono (fun k _ (hk : k = blk) => ⟨_, rfl, hk.symm⟩)⟩

set_option maxRecDepth 100000 in
set_option maxHeartbeats 2000000 in
theorem fbList_any {w : World} {tb mb : Nat} {room life : Int} {L : FL} (h : Fd w tb mb room life L) : Calls Tryd.prog 12 #[.pointer (some ⟨tb, 0, none⟩)] w (EListP w L) := by
  obtain ⟨k0, k1, k2⟩ := h.cells
  have hlm := h.mp.lt
  have H := Lib.hid h
  clear h
  go_enter Tryd.func12, Tryd.ntmps12
  go_wp2_with (first
    | (at_range; refine wpList_range_mp rfl _ 67 rfl Tryd.underlying67 rfl H.out.mp ?_; intro w0 hrg0 hg0 hs0))
  have HEN := Lib.hid (fun q (hq : q ∈ L.map pr) => enOf_mem hq)
  have HEM := Lib.hid (enOf_map (L := L) (by have := H.out.mp.nd; rw [List.map_map] at this; exact this))
  have F0 := Lib.hid (Fr.of_gb (S := No) hg0 (fun k e => by cases e))
  have R0 := Lib.hid hrg0
  have hll := H.out.len
  clear hrg0 hg0
  go_frame
  go_loopw [3] (fun t3 wr => ∃ (left ps : List (Mac × Nat)) (on oc : Nat) (oo : Option Addr), Rg okM evM evP wr mb w.heap.size (L.map pr) left ∧ (ps ++ left).Perm (L.map pr) ∧ t3 = .slice oo on oc ∧ on = ps.length ∧ Own wr 60 10 oo on oc ((ps.map (enOf L)).flatMap encE) ∧
      (∀ a, oo = some a → w.heap.size < a.block) ∧ w.heap.size < wr.heap.size ∧ Fr No w wr) (fun _ wr => wr.rangeLeft mb w.heap.size)
  case atStart => exact ⟨_, [], 0, 0, none, R0.out, by simp, rfl, rfl, Own.nil _ _ _, fun a h => (by cases h), by omega, F0.out⟩
  case round =>
    clear R0 F0
    obtain ⟨left, ps, on, oc, oo, hrg, hpm, rfl, hon, hown, hfr, hsz, hf⟩ := hrel
    have HR := Lib.hid hrg
    have HP := Lib.hid hpm
    have HON := Lib.hid hon
    have HO := Lib.hid hown
    have HFR := Lib.hid hfr
    have HF := Lib.hid hf
    have hon64 : on ≤ 64 := by have := hpm.length_eq; simp at this; omega
    clear hrg hpm hon hown hfr hf
    go_wp2_with (first
      | (at_next; refine wpList_next_mp rfl _ rfl keM rfl HR.out ?_ ?_))
    · intro hl0
      subst hl0
      have hps := HP.out
      rw [List.append_nil] at hps
      have HPS := Lib.hid hps
      clear hps
      go_wp2_with fail
      refine (fbSort_any (by rw [List.length_map]; exact HON.out) HO.out (by omega)).mono ?_
      rintro e w3 ⟨rfl, ys, hy1, hy2, hy3, hf3⟩
      have HY1 := Lib.hid hy1
      have HY2 := Lib.hid hy2
      have HY3 := Lib.hid hy3
      have F3 := Lib.hid hf3
      clear hy1 hy2 hy3 hf3
      go_wp2_with fail
      go_ret
      refine ⟨oo, on, oc, ys, rfl, by rw [HY1.out.length_eq, List.length_map]; exact HON.out, ?_, HY2.out, HY3.out, fun a ha => Nat.le_of_lt (HFR.out a ha), ?_⟩
      · rw [← HEM.out]; exact HY1.out.trans (HPS.out.map _)
      · exact HF.out.then F3.out (fun i hi ⟨a, h1, h2⟩ => by have := HFR.out a h1; omega)
    · intro k b w2 hp hrg2 hg2 hs2 hen
      have hql : (k, b) ∈ L.map pr := HP.out.mem_iff.1 (List.mem_append.2 (.inr hp))
      obtain ⟨p, hpL, hpe, hpn⟩ := HEN.out _ hql
      have hb : p.2.1 = b := (Prod.mk.inj hpe).2
      have f2 : Fr (Is w.heap.size) wr w2 := Fr.of_gb hg2 (fun r e => by cases e; rfl)
      have F2 := Lib.hid (HF.out.then f2 (fun i hi (h : i = w.heap.size) => by omega))
      have hen0 := F2.out.heap (H.out.ent p hpL) (fun h => h)
      rw [← hpn, hb] at hen0
      obtain ⟨⟨m, tun, en, at_, st⟩, hee⟩ : ∃ e, enOf L (k, b) = e := ⟨_, rfl⟩
      rw [hee] at hen0
      have HE2 := Lib.hid (show EnAt w2 b ⟨m, tun, en, at_, st⟩ from hen0)
      obtain ⟨c0, c1, c2, c3, c4, c5, c6, c7, c8, c9⟩ := HE2.out.cells
      have HEE := Lib.hid hee
      have HO2 := Lib.hid (HO.out.fr f2 (fun a ha (h : a.block = w.heap.size) => by have := HFR.out a ha; omega))
      have hpm2 : ((ps ++ [(k, b)]) ++ mdel left k).Perm (L.map pr) := by
        refine List.Perm.trans ?_ HP.out
        rw [List.append_assoc]
        exact (perm_mdel HR.out.ndl hp).symm.append_left ps
      have hlt : (mdel left k).length < left.length := by
        have := (perm_mdel HR.out.ndl hp).length_eq
        simp at this; omega
      have HP2 := Lib.hid hpm2
      have HLT := Lib.hid hlt
      have HR2 := Lib.hid hrg2
      have HRL := Lib.hid HR.out.left_eq
      have hsz2 : w.heap.size < w2.heap.size := by omega
      simp only at c0 c1 c2 c3 c4 c5 c6 c7 c8 c9
      have HS2 := Lib.hid hs2
      clear hs2 hp hrg2 hg2 hql hpe hpn hpL hb f2 hen0 hee hpm2 hlt HO HF HR HP
      simp only [evM, evP] at hen ⊢
      go_wp2_with (at_builtin; refine wpl_append_en (.tmp 15) (.tmp 19) rfl rfl rfl rfl ⟨m, tun, en, at_, st⟩ (HO2.out.no ((Fr.refl No _).alloc _)) (Own.made (w := w2) (e := 60) (size := 10) _ 1 rfl (by decide)).sl (by omega) ?_; intro oo' oc' w6 ho6 f6 hd6)
      have fa : Fr (At oo) w2 w6 := ((Fr.refl (At oo) w2).alloc _).trans f6
      have hat : ∀ i, i ≤ w.heap.size → ¬ At oo i := fun i hi ⟨a, h1, h2⟩ => by have := HFR.out a h1; omega
      have R6 := Lib.hid (HR2.out.fr fa (hat _ (by omega)) (hat _ (Nat.le_refl _)))
      have F6 := Lib.hid (F2.out.then fa (fun i hi h => hat i (by omega) h))
      have hfr6 : ∀ a, oo' = some a → w.heap.size < a.block := fun a ha => by
        rcases hd6 with h | h
        · exact HFR.out a (by rw [← h]; exact ha)
        · have h2 := h a ha
          first | omega | (simp at h2; omega)
      have hsz6 : w.heap.size < w6.heap.size := by have := fa.size; omega
      have HFR6 := Lib.hid hfr6
      have HO6 := Lib.hid ho6
      clear fa hat f6 hd6 hfr6 ho6 c0 c1 c2 c3 c4 c5 c6 c7 c8 c9 hen
      go_wp2_with fail
      go_roundw
      case rel => exact ⟨_, ps ++ [(k, b)], on + 1, _, _, R6.out, HP2.out, rfl, by simp; exact HON.out, by rw [List.map_append, List.flatMap_append]; simpa [HEE.out] using HO6.out, HFR6.out, hsz6, F6.out⟩
      case measure => rw [R6.out.left_eq, HRL.out]; exact HLT.out
end Go.Proofs.YtgmaelndhmnjiaaDoor
