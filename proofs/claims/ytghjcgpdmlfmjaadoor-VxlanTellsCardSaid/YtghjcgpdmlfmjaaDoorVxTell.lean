/- vxlan's Encap and Decap, whatever the input: what the reference tells. -/
import Derived.Test.YtghjcgpdmlfmjaaDoorRef11b
import Derived.Test.YtghjcgpdmlfmjaaDoorSaid11
namespace Go.Proofs.YtghjcgpdmlfmjaaDoor
open Go.RowKit
set_option linter.unusedVariables false

/-- The error that goes with a number: nil, or one that wraps it. -/
def SaidIs (w : World) (layer : ByteArray) (ev : Value) (inner : Bool) (c : Int) : Prop :=
  (c = 0 ∧ ev = .nilIface) ∨ ∃ (p : Value) (k : Nat), ev = .iface 83 p ∧ c = (k : Int) ∧ k ≠ 0 ∧ Nr k ∧ Err w ev (layer :: if inner = true then [octetsS] else []) c
theorem SaidIs.no {w w' : World} {layer : ByteArray} {ev : Value} {inner : Bool} {c : Int} (h : SaidIs w layer ev inner c) (hf : Fr No w w') : SaidIs w' layer ev inner c := by
  rcases h with h | ⟨p, k, h1, h2, h3, h4, h5⟩
  · exact .inl h
  · exact .inr ⟨p, k, h1, h2, h3, h4, h5.no hf⟩
theorem said11_any {w : World} {ev : Value} {inner : Bool} {c : Int} (hg : EG w) (h : SaidIs w vxlanS ev inner c) : Calls Tryd.prog 11 #[ev, .int .i64 c, .bool inner] w (SaidOk w) := by
  rcases h with ⟨rfl, rfl⟩ | ⟨p, k, rfl, rfl, h3, h4, h5⟩
  · exact said11_nil inner w
  · exact said11_err hg h5 h4 h3

def EncOut (w : World) (layer : ByteArray) (r : List UInt8 × Int) (e : Ending) (w' : World) : Prop :=
  ∃ sl m cap ev, e = .returned (.tuple #[.slice sl m cap, ev]) ∧ Bs w' sl m cap r.1 ∧ SaidIs w' layer ev false r.2 ∧ Fr No w w'
theorem EncOut.no {w w' : World} {layer : ByteArray} {k : Nat} {e : Ending} (h : BytesNo w [layer] (k : Int) e w') (h0 : k ≠ 0) (hn : Nr k) : EncOut w layer ([], (k : Int)) e w' := by
  obtain ⟨b, rfl, he, hf⟩ := h
  exact ⟨none, 0, 0, _, rfl, ⟨rfl, Sl.nil _⟩, .inr ⟨_, k, rfl, rfl, h0, hn, he⟩, hf⟩
theorem b4_three (id : Int) : b4 (id * 256) = three id ++ [0] := by
  have e : ∀ x y : Int, x % 256 = y % 256 → u8 x = u8 y := fun x y h => by simp only [u8, h]
  simp only [b4, three, List.cons_append, List.nil_append]
  rw [e (id * 256 / 16777216) (id / 65536) (by omega), e (id * 256 / 65536) (id / 256) (by omega), e (id * 256 / 256) id (by omega), e (id * 256) 0 (by omega)]
  rfl
theorem vxOut_is (id : Int) (fs : List UInt8) : vxOut id fs = [8, 0, 0, 0] ++ three id ++ [0] ++ fs := by
  have e : b4 134217728 = [8, 0, 0, 0] := by decide +kernel
  unfold vxOut
  rw [b4_three, e]
  simp

theorem vxEnc_any {w : World} {ao : Option Addr} {n cap : Nat} {fs : List UInt8} (id : Int) (hi0 : 0 ≤ id) (hi1 : id < 4294967296) (hb : Bs w ao n cap fs) : Calls Tryd.prog 7 #[.int .u32 id, .slice ao n cap] w (EncOut w vxlanS (encR id fs)) := by
  have hn := hb.1
  unfold encR
  by_cases h : 16777216 ≤ id
  · rw [if_pos h]
    exact (vxEncap_id id h hi1).mono fun e w' hr => EncOut.no (k := 1) hr (by decide) (.inl (by decide))
  · rw [if_neg h]
    unfold sizeN
    by_cases h1 : n < 14
    · rw [if_pos (show ((fs.length : Nat) : Int) < 14 by omega), if_pos (by decide)]
      exact (vxEncap_short id (by omega) h1).mono fun e w' hr => EncOut.no (k := 2) hr (by decide) (.inl (by decide))
    · rw [if_neg (show ¬ ((fs.length : Nat) : Int) < 14 by omega)]
      by_cases h2 : 9000 < n
      · rw [if_pos (show (9000 : Int) < ((fs.length : Nat) : Int) by omega), if_pos (by decide)]
        exact (vxEncap_big id (by omega) h2).mono fun e w' hr => EncOut.no (k := 7) hr (by decide) (.inl (by decide))
      · rw [if_neg (show ¬ (9000 : Int) < ((fs.length : Nat) : Int) by omega), if_neg (by decide)]
        refine (vxEncap_ok id hi0 (by omega) hb (by omega) (by omega) (m := 8 + n) rfl).mono ?_
        rintro e w' ⟨g, c, rfl, ho, hf, -⟩
        rw [vxOut_is] at ho
        exact ⟨_, _, _, _, rfl, ho.bs, .inl ⟨rfl, rfl⟩, hf⟩

def DecOut (w : World) (layer : ByteArray) (inner : Bool) (r : Int × List UInt8 × Int) (e : Ending) (w' : World) : Prop :=
  ∃ sl m cap ev, e = .returned (.tuple #[.int .u32 r.1, .slice sl m cap, ev]) ∧ Bs w' sl m cap r.2.1 ∧ SaidIs w' layer ev inner r.2.2 ∧ Fr No w w'
theorem DecOut.no {w w' : World} {layer : ByteArray} {inner : Bool} {k : Nat} {e : Ending} (h : VxNo w (layer :: if inner = true then [octetsS] else []) (k : Int) e w') (h0 : k ≠ 0) (hn : Nr k) : DecOut w layer inner (0, [], (k : Int)) e w' := by
  obtain ⟨b, rfl, he, hf⟩ := h
  exact ⟨none, 0, 0, _, rfl, ⟨rfl, Sl.nil _⟩, .inr ⟨_, k, rfl, rfl, h0, hn, he⟩, hf⟩
theorem and8 (k : Nat) (h : k < 256) : (bits .and .u32 (k : Int) 8 == 0) = decide (k / 8 % 2 = 0) := by
  have : ∀ k : Nat, k < 256 → (bits .and .u32 (k : Int) 8 == 0) = decide (k / 8 % 2 = 0) := by decide +kernel
  exact this k h
theorem known_is {bs : List UInt8} (h : 8 ≤ bs.length) : known bs = !decide ((bs.getD 0 0).toNat / 8 % 2 = 0) := by
  obtain ⟨a, b, c, d, r, rfl⟩ : ∃ a b c d r, bs = a :: b :: c :: d :: r := by
    match bs, h with
    | a :: b :: c :: d :: r, _ => exact ⟨a, b, c, d, r, rfl⟩
  have e : ((be ((a :: b :: c :: d :: r).take 4) : Nat) : Int) / 16777216 = ((a.toNat : Nat) : Int) := by
    have h1 := b.toNat_lt
    have h2 := c.toNat_lt
    have h3 := d.toNat_lt
    simp [be]; omega
  unfold known
  rw [e, and8 _ a.toNat_lt]
  rfl
theorem be_take3 {l : List UInt8} (h : 4 ≤ l.length) : ((be (l.take 4) : Nat) : Int) / 256 = ((be (l.take 3) : Nat) : Int) := by
  have hc : l[3]? = some (l[3]'(by omega)) := List.getElem?_eq_getElem (by omega)
  have h3 := (l[3]'(by omega)).toNat_lt
  rw [show (4 : Nat) = 3 + 1 from rfl, take_succ_at hc, be_snoc]
  omega

theorem vxDec_any {w : World} {ao : Option Addr} {n cap : Nat} {bs : List UInt8} (hb : Bs w ao n cap bs) (hn : n ≤ 10000) : Calls Tryd.prog 9 #[.slice ao n cap] w (DecOut w vxlanS (decide (n < 8)) (decR bs)) := by
  have hl := hb.1
  unfold decR
  by_cases h8 : n < 8
  · rw [if_pos (by omega), decide_eq_true h8]
    exact (vxDecap_head hb h8).mono fun e w' hr => DecOut.no (k := 2) (inner := true) hr (by decide) (.inl (by decide))
  · rw [if_neg (by omega), decide_eq_false h8]
    have hk := known_is (bs := bs) (by omega)
    by_cases hc : (bs.getD 0 0).toNat / 8 % 2 = 0
    · rw [if_pos hc]
      rw [decide_eq_true hc] at hk
      exact (vxDecap_form hb (by omega) (by unfold big; omega) hk).mono fun e w' hr => DecOut.no (k := 3) (inner := false) hr (by decide) (.inl (by decide))
    · rw [if_neg hc]
      rw [decide_eq_false hc] at hk
      unfold sizeN
      by_cases h1 : n < 22
      · rw [if_pos (show ((bs.length - 8 : Nat) : Int) < 14 by omega), if_pos (by decide)]
        exact (vxDecap_size hb (by omega) (by unfold big; omega) hk 2 (.inl ⟨h1, rfl⟩)).mono fun e w' hr => DecOut.no (k := 2) (inner := false) hr (by decide) (.inl (by decide))
      · rw [if_neg (show ¬ ((bs.length - 8 : Nat) : Int) < 14 by omega)]
        by_cases h2 : 9008 < n
        · rw [if_pos (show (9000 : Int) < ((bs.length - 8 : Nat) : Int) by omega), if_pos (by decide)]
          exact (vxDecap_size hb (by omega) (by unfold big; omega) hk 7 (.inr ⟨h2, rfl⟩)).mono fun e w' hr => DecOut.no (k := 7) (inner := false) hr (by decide) (.inl (by decide))
        · rw [if_neg (show ¬ (9000 : Int) < ((bs.length - 8 : Nat) : Int) by omega), if_neg (by decide)]
          refine (vxDecap_ok hb (by omega) (by omega) hk (be_take3 (by rw [List.length_drop]; omega)) rfl rfl).mono ?_
          rintro e w' ⟨g, c, rfl, ho, hf, -⟩
          exact ⟨_, _, _, _, rfl, ho.bs, .inl ⟨rfl, rfl⟩, hf⟩

end Go.Proofs.YtghjcgpdmlfmjaaDoor
