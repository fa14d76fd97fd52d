/- gre's Encap and Decap, whatever the input: what the reference tells. -/
import Derived.Test.YtghjcgpdmlfmjaaDoorRef13d
import Derived.Test.YtghjcgpdmlfmjaaDoorGre4
import Derived.Test.YtghjcgpdmlfmjaaDoorSaid13
import Derived.Test.YtghjcgpdmlfmjaaDoorSh13
namespace Go.Proofs.YtghjcgpdmlfmjaaDoor
open Go.RowKit
set_option linter.unusedVariables false

/-- The error that goes with a number: nil, or one that wraps it. -/
def SaidIs (w : World) (layer : ByteArray) (ev : Value) (inner : Bool) (c : Int) : Prop :=
  (c = 0 ∧ ev = .nilIface) ∨ ∃ (p : Value) (k : Nat), ev = .iface 83 p ∧ c = (k : Int) ∧ k ≠ 0 ∧ Nr k ∧ Err w ev (layer :: if inner = true then [octetsS] else []) c
theorem SaidIs.no {w w' : World} {layer : ByteArray} {ev : Value} {inner : Bool} {c : Int} (h : SaidIs w layer ev inner c) (hf : Fr No w w') : SaidIs w' layer ev inner c := by
  rcases h with h | ⟨p, k, h1, h2, h3, h4, h5⟩
  · exact .inl h
  · exact .inr ⟨p, k, h1, h2, h3, h4, h5.no hf⟩
theorem said13_any {w : World} {ev : Value} {inner : Bool} {c : Int} (hg : EG w) (h : SaidIs w greS ev inner c) : Calls Tryd.prog 18 #[ev, .int .i64 c, .bool inner] w (SaidOk w) := by
  rcases h with ⟨rfl, rfl⟩ | ⟨p, k, rfl, rfl, h3, h4, h5⟩
  · exact said13_nil inner w
  · exact said13_err hg h5 h4 h3

def EncOut (w : World) (layer : ByteArray) (r : List UInt8 × Int) (e : Ending) (w' : World) : Prop :=
  ∃ sl m cap ev, e = .returned (.tuple #[.slice sl m cap, ev]) ∧ Bs w' sl m cap r.1 ∧ SaidIs w' layer ev false r.2 ∧ Fr No w w'
theorem EncOut.gno {w w' : World} {k : Nat} {e : Ending} (h : GNo w [greS] (k : Int) e w') (h0 : k ≠ 0) (hn : Nr k) : EncOut w greS ([], (k : Int)) e w' := by
  obtain ⟨b, rfl, he, hf⟩ := h
  exact ⟨none, 0, 0, _, rfl, ⟨rfl, Sl.nil _⟩, .inr ⟨_, k, rfl, rfl, h0, hn, he⟩, hf⟩
theorem grEnc_any {w : World} {ao : Option Addr} {n cap : Nat} {fs : List UInt8} (s k : Bool) (key : Int) (q : Bool) (seq : Int) (hk0 : 0 ≤ key) (hk1 : key < 4294967296) (hq0 : 0 ≤ seq) (hq1 : seq < 4294967296) (hb : Bs w ao n cap fs) :
    Calls Tryd.prog 14 #[.agg #[.bool s, .bool k, .int .u32 key, .bool q, .int .u32 seq], .slice ao n cap] w (EncOut w greS (greR s k key q seq fs)) := by
  have hn := hb.1
  unfold greR sizeN
  by_cases h1 : n < 14
  · rw [if_pos (show ((fs.length : Nat) : Int) < 14 by omega), if_pos (by decide)]
    exact (gEncap_short s k key q seq h1).mono fun e w' hr => EncOut.gno (k := 2) hr (by decide) (.inl (by decide))
  · rw [if_neg (show ¬ ((fs.length : Nat) : Int) < 14 by omega)]
    by_cases h2 : 9000 < n
    · rw [if_pos (show (9000 : Int) < ((fs.length : Nat) : Int) by omega), if_pos (by decide)]
      exact (gEncap_big s k key q seq h2).mono fun e w' hr => EncOut.gno (k := 7) hr (by decide) (.inl (by decide))
    · rw [if_neg (show ¬ (9000 : Int) < ((fs.length : Nat) : Int) by omega), if_neg (by decide)]
      refine (gEncap_ok s k key q seq hk0 hk1 hq0 hq1 hb (by omega) (by omega) (m := greHead s k q + n) rfl).mono ?_
      rintro e w' ⟨g, c, rfl, ho, hf, -⟩
      exact ⟨_, _, _, _, rfl, ho.bs, .inl ⟨rfl, rfl⟩, hf⟩

def DecOut13 (w : World) (r : GRes) (e : Ending) (w' : World) : Prop :=
  ∃ sl m cap ev, e = .returned (.tuple #[hdrV r, .slice sl m cap, ev]) ∧ Bs w' sl m cap (outB r) ∧ SaidIs w' greS ev (innerG r) (codeG r) ∧ Fr No w w'
/-- The numbers that Decap tells. -/
theorem gDec_codes {bs : List UInt8} {inner : Bool} {c : Int} (h : gDec bs = .no inner c) : ∃ k : Nat, c = (k : Int) ∧ k ≠ 0 ∧ Nr k := by
  have hz : ∀ {i : Bool} {n : Int}, GRes.no i n = .no inner c → n = c := fun h => by cases h; rfl
  unfold gDec at h
  split at h
  · exact ⟨2, (hz h).symm, by decide, .inl (by decide)⟩
  split at h
  · exact ⟨3, (hz h).symm, by decide, .inl (by decide)⟩
  split at h
  · exact ⟨12, (hz h).symm, by decide, .inr (by decide)⟩
  cases hh : gHdr bs with
  | none => rw [hh] at h; exact ⟨2, (hz h).symm, by decide, .inl (by decide)⟩
  | some p =>
    obtain ⟨x, y, r⟩ := p
    rw [hh] at h
    simp only at h
    split at h
    · exact ⟨4, (hz h).symm, by decide, .inl (by decide)⟩
    unfold gSize at h
    split at h
    · exact ⟨2, (hz h).symm, by decide, .inl (by decide)⟩
    split at h
    · exact ⟨7, (hz h).symm, by decide, .inl (by decide)⟩
    cases h
theorem grDec_any {w : World} {ao : Option Addr} {n cap : Nat} {bs : List UInt8} (hb : Bs w ao n cap bs) (hn : n ≤ 10000) : Calls Tryd.prog 16 #[.slice ao n cap] w (DecOut13 w (gDec bs)) := by
  refine (gDecap_any hb (by omega)).mono ?_
  intro e w' h
  cases hd : gDec bs with
  | ok s k key q seq fs =>
    rw [hd] at h
    obtain ⟨g, c, rfl, ho, hf, -⟩ := h
    exact ⟨_, _, _, _, rfl, ho.bs, .inl ⟨rfl, rfl⟩, hf⟩
  | no inner c =>
    rw [hd] at h
    obtain ⟨v, rfl, he, hf⟩ := h
    obtain ⟨b, rfl⟩ := Err.is_wrong (s := greS) he
    obtain ⟨k, rfl, h0, hk⟩ := gDec_codes hd
    exact ⟨none, 0, 0, _, rfl, ⟨rfl, Sl.nil _⟩, .inr ⟨_, k, rfl, rfl, h0, hk, he⟩, hf⟩

set_option maxRecDepth 100000 in
theorem same13_agg (s k : Bool) (key : Int) (q : Bool) (seq : Int) (w : World) :
    Calls Tryd.prog 19 #[.agg #[.bool s, .bool k, .int .u32 key, .bool q, .int .u32 seq], .agg #[.bool s, .bool k, .int .u32 key, .bool q, .int .u32 seq]] w (SaidOk w) := by
  have F0 := Lib.hid (((Fr.refl No w).alloc (.cells #[.bool s, .bool k, .int .u32 key, .bool q, .int .u32 seq] 40)).alloc (.cells #[.bool s, .bool k, .int .u32 key, .bool q, .int .u32 seq] 43))
  go_enter Tryd.func19, Tryd.ntmps19
  go_wp2_with fail
  go_ret
  exact ⟨rfl, F0.out⟩
theorem hdrV_agg (r : GRes) : ∃ (s k : Bool) (key : Int) (q : Bool) (seq : Int), hdrV r = .agg #[.bool s, .bool k, .int .u32 key, .bool q, .int .u32 seq] := by
  cases r with
  | ok s k key q seq fs => exact ⟨_, _, _, _, _, rfl⟩
  | no i c => exact ⟨_, _, _, _, _, rfl⟩

end Go.Proofs.YtghjcgpdmlfmjaaDoor
