/- geneve: options. -/
import Derived.Test.YthoppkklooomgaaGen5
import Derived.Deep.RegionHeld3
namespace Go.Proofs.Ythoppkklooomgaa
open Go.RowKit
set_option linter.unusedVariables false
def OptsRes (w : World) (r : Option (List Opt)) (e : Ending) (w' : World) : Prop :=
  match r with
  | none => e = .returned (.tuple #[.slice none 0 0, .bool false]) ∧ Fr No w w'
  | some os => ∃ ao n cap ad, e = .returned (.tuple #[.slice ao n cap, .bool true]) ∧ Ro (Up w.heap.size) w' ao n cap os ad ∧ Fr No w w'
/-- append at []api.Option, of one, at a step of a region that draws its order. -/
theorem step_append_opt {w : World} {ops : Array Oper} {o : Oper} {a : Act} {K : Act → World → Prop} {Q : Exit → Act → World → Prop} {E : Prop} (s x : Operand)
    (hgd : o.guard = none) (hop : o.op = .call { callee := .builtin .append, args := #[s, x], argTypes := #[24, 24] })
    {ao : Option Addr} {n cap : Nat} (hev : a.eval s = .slice ao n cap) {bo : Option Addr} {c : Nat} (hex : a.eval x = .slice bo 1 c)
    {xs : List Value} {u0 u1 u2 : Value} (h1 : Own w 38 3 ao n cap xs) (h2 : Sl w bo 1 c [u0, u1, u2]) (hu0 : u0.oneCell' = true) (hu1 : u1.oneCell' = true) (hu2 : u2.oneCell' = true) (hb : n ≤ 1000000)
    (hK : ∀ ao' cap' w', Own w' 38 3 ao' (n + 1) cap' (xs ++ [u0, u1, u2]) → Fr (At ao) w w' → (ao' = ao ∨ ∀ a, ao' = some a → w.heap.size ≤ a.block) → K (a.put o.dst (.slice ao' (n + 1) cap')) w') :
    if Region.wanted o (yielded ops a.tmps) = true then Oper.wp Try.prog o a w K Q else E := by
  have hw : Region.wanted o (yielded ops a.tmps) = true := by simp [Region.wanted, hgd]
  rw [if_pos hw]
  obtain ⟨i0, hi, hz0, hz1, hz2⟩ := info_parts info_opt
  obtain ⟨ao', cap', w', hrun, r1, r2, r3, r4, r5⟩ := run_append_U (P := Try.prog) w 24 o.type 38 i0 _ 3 32 Try.underlying24 hi hz0 hz1 hz2 rfl (by decide) ao n cap xs h1 bo 1 c _ h2 rfl (by simp [hu0, hu1, hu2]) (by omega) (by omega)
  unfold Oper.wp
  simp [execOp, hop, resolve, invoke, builtin, hev, hex, hrun, Result.andThen]
  exact hK ao' cap' w' r1 r2 r3

theorem or16 (a b : UInt8) : bits .or .u16 (IntKind.u16.wrap (IntKind.u16.wrap (a.toNat : Int) * 256)) (IntKind.u16.wrap (b.toNat : Int)) = ((a.toNat * 256 + b.toNat : Nat) : Int) := by
  have ha := a.toNat_lt
  have hb := b.toNat_lt
  have e1 : IntKind.u16.wrap (IntKind.u16.wrap (a.toNat : Int) * 256) = ((a.toNat * 256 : Nat) : Int) := by rw [IntKind.wrap_u16, IntKind.wrap_u16]; omega
  have e2 : IntKind.u16.wrap (b.toNat : Int) = (b.toNat : Int) := by rw [IntKind.wrap_u16]; omega
  rw [e1, e2, u16_or_nat _ _ (by omega) (by omega), nat_join8 _ _ (by omega) hb]
theorem Ro.lt {S : Nat → Prop} {w : World} {ao : Option Addr} {n cap : Nat} {os : List Opt} {ad : List (Option Addr × Nat)} (h : Ro S w ao n cap os ad) : ∀ (i : Nat) (q : Option Addr × Nat) (a : Addr), ad[i]? = some q → q.1 = some a → a.block < w.heap.size := by
  intro i q a hq ha
  have hi := (List.getElem?_eq_some_iff.1 hq).1
  have hi' : i < os.length := by rw [h.len, ← h.adl]; exact hi
  exact (h.ob i _ q (List.getElem?_eq_getElem hi') hq).1.2.lt a ha
theorem Ro.more {w wr w2 w3 : World} {o : Obj} {co co' bo : Option Addr} {k cap cap' l bc : Nat} {os : List Opt} {ad : List (Option Addr × Nat)} {bs : List UInt8} {cls : Nat} {typ : UInt8} {z : Int} (hro : Ro (Up w.heap.size) wr co k cap os ad)
    (f1 : Fr No w wr) (f2 : Fr No wr w2) (ob : OB w2 5 bo l bc bs) (hn2 : ∀ a, bo = some a → wr.heap.size ≤ a.block) (hcls : cls < 65536) (hz : z = (cls : Int))
    (ho : Own w3 38 3 co' (k + 1) cap' (optV os ad ++ [.int .u16 z, .int .u8 (typ.toNat : Int), .slice bo l bc])) (f3 : Fr (At co) (w2.alloc o) w3) (hd : co' = co ∨ ∀ a, co' = some a → (w2.alloc o).heap.size ≤ a.block) :
    Ro (Up w.heap.size) w3 co' (k + 1) cap' (os ++ [⟨cls, typ, bs⟩]) (ad ++ [(bo, bc)]) ∧ Fr No w w3 := by
  subst hz
  have hl := ob.1
  subst hl
  have h12 := f1.size
  have h23 := f2.size
  refine ⟨Ro.snoc (o := ⟨cls, typ, bs⟩) (p := (bo, bc)) (B := wr.heap.size) (hro.no (f2.alloc o)) (ob.no ((Fr.refl No w2).alloc o)) hn2 hro.lt hro.own.lt hcls (fun k hk => Nat.le_trans h12 hk) (by simp; omega) rfl ho f3 hd, ?_⟩
  refine (f1.then_no (f2.alloc o)).then f3 (fun i hi hc => ?_)
  obtain ⟨a, ha, rfl⟩ := hc
  have h := hro.row a ha
  simp only [Up] at h; omega
def lenOf : Value → Nat
  | .slice _ n _ => n
  | _ => 0
theorem list4 {l : List UInt8} (h : 4 ≤ l.length) : ∃ a b t c r, l = a :: b :: t :: c :: r := by
  match l, h with
  | a :: b :: t :: c :: r, _ => exact ⟨a, b, t, c, r, rfl⟩
theorem and31 (c : UInt8) : bits .and .u8 (c.toNat : Int) 31 = ((c.toNat % 32 : Nat) : Int) := by
  have h : ∀ k : Nat, k < 256 → bits .and .u8 (k : Int) 31 = ((k % 32 : Nat) : Int) := by decide +kernel
  exact h _ c.toNat_lt

theorem andNot31 (c : UInt8) : bits .andNot .u8 (c.toNat : Int) 31 = 0 ↔ c.toNat < 32 := by
  have h : ∀ k : Nat, k < 256 → (bits .andNot .u8 (k : Int) 31 = 0 ↔ k < 32) := by decide +kernel
  exact h _ c.toNat_lt
theorem andNot31_0 (c : UInt8) (h : c.toNat < 32) : bits .andNot .u8 (c.toNat : Int) 31 = 0 := (andNot31 c).2 h
set_option maxHeartbeats 1600000 in
set_option maxRecDepth 100000 in
theorem gnOptions_any {w : World} {ao : Option Addr} {m : Nat} {l : List UInt8} (h : Bs w ao m m l) (h4 : m % 4 = 0) (hm : m ≤ 252) : Calls Try.prog 61 #[.slice ao m m] w (OptsRes w (optsOf l)) := by
  have H := Lib.hid h
  clear h
  go_enter Try.func61, Try.ntmps61
  go_wp2_with fail
  go_loopw [0, 2] (fun t0 t2 wr => ∃ (bo : Option Addr) (n : Nat) (r : List UInt8) (co : Option Addr) (k cap : Nat) (os : List Opt) (ad : List (Option Addr × Nat)), t0 = .slice bo n n ∧ Bs w bo n n r ∧ n % 4 = 0 ∧ n ≤ 252 ∧ t2 = .slice co k cap ∧ k ≤ 1000 - n ∧
      Ro (Up w.heap.size) wr co k cap os ad ∧ optsOf l = (optsOf r).map (os ++ ·) ∧ Fr No w wr) (fun t0 _ _ => lenOf t0)
  case atStart => exact ⟨ao, m, l, none, 0, 0, [], [], rfl, H.out, h4, hm, rfl, by omega, Ro.nil _ _, by simp, Fr.refl _ _⟩
  case round =>
    clear H
    obtain ⟨bo, n, r, co, k, cap, os, ad, rfl, hb, hn4, hn, rfl, hk, hro, heq, hf⟩ := hrel
    have hN : r.length = n := hb.1.symm
    have HB := Lib.hid hb
    have HN := Lib.hid hN
    have HR := Lib.hid hro
    have HE := Lib.hid heq
    have F1 := Lib.hid hf
    clear hb hN hro heq hf
    by_cases h0 : n = 0
    · subst h0
      have hr0 : r = [] := List.eq_nil_of_length_eq_zero HN.out
      have he : optsOf l = some os := by rw [HE.out, hr0, optsOf_nil]; simp
      have HE2 := Lib.hid he
      clear hr0 he
      go_wp2_with fail
      go_ret2
      rw [HE2.out]
      exact ⟨_, _, _, _, rfl, HR.out, F1.out⟩
    · obtain ⟨a, b, t, c, r', hr⟩ := list4 (l := r) (by rw [HN.out]; omega)
      have hs := optsOf_step hr
      have HRR := Lib.hid hr
      have HST := Lib.hid hs
      obtain ⟨x, hx⟩ := HB.out.some (by rw [HN.out]; omega)
      subst hx
      have HBr := Lib.hid (HB.out.no F1.out)
      have d0 := HBr.out.at (j := 0) (c := a) (by rw [hr]; rfl)
      have d1 := HBr.out.at (j := 1) (c := b) (by rw [hr]; rfl)
      have d2 := HBr.out.at (j := 2) (c := t) (by rw [hr]; rfl)
      have d3 := HBr.out.at (j := 3) (c := c) (by rw [hr]; rfl)
      have hsp : x.spot = none := World.cell?_spot (w := wr) (by have := d0; rwa [show x.add 0 = x from rfl] at this)
      rw [add_of_spot hsp] at d0 d1 d2 d3
      have v0 := HB.out.at (j := 0) (c := a) (by rw [hr]; rfl)
      have v1 := HB.out.at (j := 1) (c := b) (by rw [hr]; rfl)
      have v2 := HB.out.at (j := 2) (c := t) (by rw [hr]; rfl)
      rw [add_of_spot hsp] at v1 v2
      replace v0 : w.cell? x = some (.int .u8 a.toNat) := v0
      have V0 := Lib.hid v0
      have V1 := Lib.hid v1
      have V2 := Lib.hid v2
      clear hr hs v0 v1 v2
      have hc31 := and31 c
      have hcn : c.toNat % 32 < 32 := by omega
      have hrl : r'.length + 4 = n := by rw [← HN.out, HRR.out]; simp
      by_cases hbad : 32 ≤ c.toNat ∨ n < 4 + 4 * (c.toNat % 32)
      · have he : optsOf l = none := by
          rw [HE.out, HST.out, if_pos (by omega)]; rfl
        have HX := Lib.hid he
        have hb2 := andNot31 c
        clear he
        go_wp2_with fail
        all_goals first | (exfalso; omega) | skip
        all_goals go_ret2
        all_goals rw [HX.out]
        all_goals exact ⟨rfl, F1.out⟩
      · have hc32 : c.toNat < 32 := by omega
        have hb2 := andNot31_0 c hc32
        obtain ⟨n1, hn1⟩ : ∃ n1, n1 = 4 + 4 * (c.toNat % 32) := ⟨_, rfl⟩
        have e1 : (4 + 4 * ((c.toNat : Int) % 32)) = (n1 : Int) := by omega
        have hn4' : 4 ≤ n1 := by omega
        have hnn : n1 ≤ n := by omega
        have HN1 := Lib.hid hn1
        have E1 := Lib.hid e1
        have hnn2 : 4 + 4 * (c.toNat % 32) ≤ n := by omega
        clear hbad hn1 e1
        go_wp2_with fail
        rw [E1.out]
        clear hnn2
        have b1 : (1 : Int) < (n : Int) := by omega
        have b2 : (2 : Int) < (n : Int) := by omega
        have b3 : (4 : Int) ≤ (n1 : Int) := by omega
        have b4 : (n1 : Int) ≤ (n : Int) := by omega
        have b5 : (0 : Int) ≤ (n1 : Int) := by omega
        have b6 : (n1 : Int).toNat = n1 := by omega
        replace d0 : wr.cell? x = some (.int .u8 a.toNat) := by
          have := d0
          rwa [← add_of_spot hsp] at this
        have hor := or16 a b
        have hcut : Bs wr (if n = 4 then some x else some ⟨x.block, x.off + 4, none⟩) (n1 - 4) (n - 4) (r'.take (4 * (c.toNat % 32))) := by
          have := HBr.out.cut 4 n1 n (by omega) hnn (Nat.le_refl _) hnn (a' := if n = 4 then some x else some ⟨x.block, x.off + 4, none⟩) (by rw [Option.map_some, add_of_spot hsp])
          have e : (r.drop 4).take (n1 - 4) = r'.take (4 * (c.toNat % 32)) := by rw [HRR.out]; congr 1; have := HN1.out; omega
          rwa [e] at this
        have HC := Lib.hid hcut
        clear hcut
        go_region_held3 (fun w' => w'.cell? x = some (.int .u8 a.toNat) ∧ w'.cell? ⟨x.block, x.off + 1, none⟩ = some (.int .u8 b.toNat) ∧ w'.cell? ⟨x.block, x.off + 2, none⟩ = some (.int .u8 t.toNat))
          (first | exact ⟨d0, d1, d2⟩ | exact ⟨((Fr.refl No _).alloc _).cell k0 (fun h => h), ((Fr.refl No _).alloc _).cell k1 (fun h => h), ((Fr.refl No _).alloc _).cell k2 (fun h => h)⟩ | exact ⟨k0, k1, k2⟩ | exact ⟨q0, q1, q2⟩)
          (first
            | (go_at_call 28; generalize (if n = 4 then some x else some ({ block := x.block, off := x.off + 4, spot := none } : Addr)) = y at HC ⊢; refine (cloneB_any (HC.out.no ((Fr.refl No wr).drew)) (by unfold big; omega)).mono ?_; rintro e w2 ⟨bo', bc', rfl, ob, f2, hn2⟩; have F2 := Lib.hid (((Fr.refl No wr).drew).then_no f2); have OB2 := Lib.hid ob; have HN2 := Lib.hid hn2; have k0 := F2.out.cell d0 (fun h => h); have k1 := F2.out.cell d1 (fun h => h); have k2 := F2.out.cell d2 (fun h => h); clear f2 ob hn2)
            | (refine step_append_opt (.tmp 26) (.tmp 45) rfl rfl rfl rfl (HR.out.own.no (F2.out.alloc _)) (Own.made (w := w2) (e := 38) (size := 3) _ 1 rfl (by decide)).sl rfl rfl rfl (by omega) ?_; intro co' cap' w3 ho f3 hd; obtain ⟨r3, f4⟩ := Ro.more (cls := a.toNat * 256 + b.toNat) (typ := t) HR.out F1.out F2.out OB2.out HN2.out (by have := a.toNat_lt; have := b.toNat_lt; omega) (by omega) ho f3 hd; have R3 := Lib.hid r3; have F4 := Lib.hid f4; have q0 := F4.out.cell V0.out (fun h => h); have q1 := F4.out.cell V1.out (fun h => h); have q2 := F4.out.cell V2.out (fun h => h); clear ho f3 hd r3 f4))
        clear d0 d1 d2 d3 k0 k1 k2 q0 q1 q2 hor
        go_wp2_with fail
        go_roundw
        case rel =>
          have hc32' : ¬ (32 ≤ c.toNat ∨ r'.length < 4 * (c.toNat % 32)) := by have := HN1.out; omega
          refine ⟨_, n - n1, r'.drop (4 * (c.toNat % 32)), co', k + 1, cap', _, _, rfl, ?_, by have := HN1.out; omega, by omega, rfl, by omega, R3.out, ?_, F4.out⟩
          · have := HB.out.cut n1 n n hnn (Nat.le_refl _) (Nat.le_refl _) (Nat.le_refl _) (a' := if n = n1 then some x else some (x.add n1)) rfl
            have e : (r.drop n1).take (n - n1) = r'.drop (4 * (c.toNat % 32)) := by
              rw [List.take_of_length_le (by rw [List.length_drop, HN.out]; exact Nat.le_refl _), HRR.out, HN1.out, Nat.add_comm]
              rfl
            rwa [e] at this
          · rw [HE.out, HST.out, if_neg hc32', Option.map_map]
            congr 1
            funext z
            simp
        case measure => simp [lenOf]; omega

end Go.Proofs.Ythoppkklooomgaa