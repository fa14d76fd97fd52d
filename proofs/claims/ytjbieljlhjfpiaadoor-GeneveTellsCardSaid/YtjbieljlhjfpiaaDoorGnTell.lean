/- geneve's functions, whatever the input: what the reference tells. -/
import Derived.Test.YtjbieljlhjfpiaaDoorRef12d
import Derived.Test.YtjbieljlhjfpiaaDoorGenLaw
import Derived.Test.YtjbieljlhjfpiaaDoorSaid12
import Derived.Test.YtjbieljlhjfpiaaDoorSh12b
namespace Go.Proofs.YtjbieljlhjfpiaaDoor
open Go.RowKit
set_option linter.unusedVariables false

/-- The error that goes with a number: nil, or one that wraps it. -/
def SaidIs (w : World) (layer : ByteArray) (ev : Value) (inner : Bool) (c : Int) : Prop :=
  (c = 0 ∧ ev = .nilIface) ∨ ∃ (p : Value) (k : Nat), ev = .iface 82 p ∧ c = (k : Int) ∧ k ≠ 0 ∧ Nr k ∧ Err w ev (layer :: if inner = true then [octetsS] else []) c
theorem SaidIs.no {w w' : World} {layer : ByteArray} {ev : Value} {inner : Bool} {c : Int} (h : SaidIs w layer ev inner c) (hf : Fr No w w') : SaidIs w' layer ev inner c := by
  rcases h with h | ⟨p, k, h1, h2, h3, h4, h5⟩
  · exact .inl h
  · exact .inr ⟨p, k, h1, h2, h3, h4, h5.no hf⟩
theorem said12_any {w : World} {ev : Value} {inner : Bool} {c : Int} (hg : EG w) (h : SaidIs w geneveS ev inner c) : Calls Tryd.prog 14 #[ev, .int .i64 c, .bool inner] w (SaidOk w) := by
  rcases h with ⟨rfl, rfl⟩ | ⟨p, k, rfl, rfl, h3, h4, h5⟩
  · exact said12_nil inner w
  · exact said12_err hg h5 h4 h3

def EncOut (w : World) (layer : ByteArray) (r : List UInt8 × Int) (e : Ending) (w' : World) : Prop :=
  ∃ sl m cap ev, e = .returned (.tuple #[.slice sl m cap, ev]) ∧ Bs w' sl m cap r.1 ∧ SaidIs w' layer ev false r.2 ∧ Fr No w w'
theorem EncOut.gno {w w' : World} {k : Nat} {e : Ending} (h : BytesNo w [geneveS] (k : Int) e w') (h0 : k ≠ 0) (hn : Nr k) : EncOut w geneveS ([], (k : Int)) e w' := by
  obtain ⟨b, rfl, he, hf⟩ := h
  exact ⟨none, 0, 0, _, rfl, ⟨rfl, Sl.nil _⟩, .inr ⟨_, k, rfl, rfl, h0, hn, he⟩, hf⟩
theorem rightN_cases (os : List Opt) : rightN os = 0 ∨ rightN os = ((1 : Nat) : Int) ∨ rightN os = ((7 : Nat) : Int) := by
  unfold rightN; split
  · exact .inr (.inl rfl)
  · split
    · exact .inr (.inr rfl)
    · exact .inl rfl
theorem gnEnc_any {w : World} {oo : Option Addr} {on oc : Nat} {os : List Opt} {ao : Option Addr} {n cap : Nat} {fs : List UInt8} (id : Int) (hi0 : 0 ≤ id) (hi1 : id < 4294967296) (ho : Rs w oo on oc os) (hon : on ≤ 1000) (hb : Bs w ao n cap fs) :
    Calls Tryd.prog 8 #[.int .u32 id, .slice oo on oc, .slice ao n cap] w (EncOut w geneveS (gnR id os fs)) := by
  have hn := hb.1
  unfold gnR
  by_cases h : 16777216 ≤ id
  · rw [if_pos h]
    exact (gnEncap_id id h hi1).mono fun e w' hr => EncOut.gno (k := 1) hr (by decide) (.inl (by decide))
  · rw [if_neg h]
    rcases rightN_cases os with h0 | h0 | h0
    · rw [if_neg (by simp [h0])]
      unfold sizeN
      by_cases h1 : n < 14
      · rw [if_pos (show ((fs.length : Nat) : Int) < 14 by omega), if_pos (by decide)]
        exact (gnEncap_size id (by omega) ho hon h0 2 (.inl ⟨h1, rfl⟩)).mono fun e w' hr => EncOut.gno (k := 2) hr (by decide) (.inl (by decide))
      · rw [if_neg (show ¬ ((fs.length : Nat) : Int) < 14 by omega)]
        by_cases h2 : 9000 < n
        · rw [if_pos (show (9000 : Int) < ((fs.length : Nat) : Int) by omega), if_pos (by decide)]
          exact (gnEncap_size id (by omega) ho hon h0 7 (.inr ⟨h2, rfl⟩)).mono fun e w' hr => EncOut.gno (k := 7) hr (by decide) (.inl (by decide))
        · rw [if_neg (show ¬ (9000 : Int) < ((fs.length : Nat) : Int) by omega), if_neg (by decide)]
          refine (gnEncap_ok id hi0 (by omega) ho hon h0 hb (by omega) (by omega) (m := 8 + osum os + n) rfl).mono ?_
          rintro e w' ⟨g, c, rfl, hob, hf, -⟩
          exact ⟨_, _, _, _, rfl, hob.bs, .inl ⟨rfl, rfl⟩, hf⟩
    · rw [if_pos (by rw [h0]; decide), h0]
      exact (gnEncap_right id (by omega) ho hon h0 (by decide)).mono fun e w' hr => EncOut.gno (k := 1) hr (by decide) (.inl (by decide))
    · rw [if_pos (by rw [h0]; decide), h0]
      exact (gnEncap_right id (by omega) ho hon h0 (by decide)).mono fun e w' hr => EncOut.gno (k := 7) hr (by decide) (.inl (by decide))

def RightOut (w : World) (c : Int) (e : Ending) (w' : World) : Prop := ∃ ev, e = .returned ev ∧ SaidIs w' geneveS ev false c ∧ Fr No w w'
theorem gnRight_any {w : World} {ao : Option Addr} {n cap : Nat} {os : List Opt} (h : Rs w ao n cap os) (hn : n ≤ 1000) : Calls Tryd.prog 16 #[.slice ao n cap] w (RightOut w (rightN os)) := by
  refine (right_any h hn).mono ?_
  rintro e w' (⟨h0, rfl, hf⟩ | ⟨h0, b, rfl, he, hf⟩)
  · exact ⟨_, rfl, .inl ⟨h0, rfl⟩, hf⟩
  · rcases rightN_cases os with h1 | h1 | h1
    · exact absurd h1 h0
    · exact ⟨_, rfl, .inr ⟨_, 1, rfl, h1, by decide, .inl (by decide), he⟩, hf⟩
    · exact ⟨_, rfl, .inr ⟨_, 7, rfl, h1, by decide, .inl (by decide), he⟩, hf⟩

def idG : GnRes → Int
  | .ok id _ _ => (id : Int)
  | .no _ _ => 0
def osG : GnRes → List Opt
  | .ok _ os _ => os
  | .no _ _ => []
def fsG : GnRes → List UInt8
  | .ok _ _ fs => fs
  | .no _ _ => []
def codeG : GnRes → Int
  | .ok _ _ _ => 0
  | .no _ c => c
def inG : GnRes → Bool
  | .ok _ _ _ => false
  | .no i _ => i
theorem Rs.nil (w : World) : Rs w none 0 0 [] := ⟨rfl, Nat.le_refl _, by omega, fun _ => rfl, fun a ha => (by cases ha), fun _ h => (by simp at h)⟩

/-- The numbers that Decap tells. -/
theorem gnDec_codes {bs : List UInt8} {inner : Bool} {c : Int} (h : gnDec bs = .no inner c) : ∃ k : Nat, c = (k : Int) ∧ k ≠ 0 ∧ Nr k := by
  have hz : ∀ {i : Bool} {n : Int}, GnRes.no i n = .no inner c → n = c := fun h => by cases h; rfl
  unfold gnDec at h
  split at h
  · exact ⟨2, (hz h).symm, by decide, .inl (by decide)⟩
  split at h
  · exact ⟨3, (hz h).symm, by decide, .inl (by decide)⟩
  split at h
  · exact ⟨12, (hz h).symm, by decide, .inr (by decide)⟩
  split at h
  · exact ⟨2, (hz h).symm, by decide, .inl (by decide)⟩
  split at h
  · exact ⟨3, (hz h).symm, by decide, .inl (by decide)⟩
  split at h
  · exact ⟨3, (hz h).symm, by decide, .inl (by decide)⟩
  unfold gnFrame at h
  split at h
  · exact ⟨2, (hz h).symm, by decide, .inl (by decide)⟩
  split at h
  · exact ⟨7, (hz h).symm, by decide, .inl (by decide)⟩
  cases h

def DecOut (w : World) (r : GnRes) (e : Ending) (w' : World) : Prop :=
  ∃ ao n cap sl m c ev, e = .returned (.tuple #[.int .u32 (idG r), .slice ao n cap, .slice sl m c, ev]) ∧ Rs w' ao n cap (osG r) ∧ Bs w' sl m c (fsG r) ∧ SaidIs w' geneveS ev (inG r) (codeG r) ∧ Fr No w w'
theorem gnDecTell_any {w : World} {ao : Option Addr} {n cap : Nat} {bs : List UInt8} (hb : Bs w ao n cap bs) (hn : n ≤ 10000) : Calls Tryd.prog 10 #[.slice ao n cap] w (DecOut w (gnDec bs)) := by
  refine (gnDecap_any hb (by omega)).mono ?_
  intro e w' h
  cases hd : gnDec bs with
  | ok id os fs =>
    rw [hd] at h
    obtain ⟨ao, n, cap, ad, g, gc, rfl, hro, hob, hf, -⟩ := h
    exact ⟨_, _, _, _, _, _, _, rfl, hro.rs, hob.bs, .inl ⟨rfl, rfl⟩, hf⟩
  | no inner c =>
    rw [hd] at h
    obtain ⟨b, rfl, he, hf⟩ := h
    obtain ⟨k, rfl, h0, hk⟩ := gnDec_codes hd
    exact ⟨none, 0, 0, none, 0, 0, _, rfl, Rs.nil _, ⟨rfl, Sl.nil _⟩, .inr ⟨_, k, rfl, rfl, h0, hk, he⟩, hf⟩
def DecR (w : World) (r : GnRes) (e : Ending) (w' : World) : Prop :=
  ∃ ao n cap, e = .returned (.tuple #[.int .u32 (idG r), .slice ao n cap, .string ⟨(fsG r).toArray⟩, .int .i64 (codeG r), .bool (inG r)]) ∧ Rs w' ao n cap (osG r) ∧ Fr No w w'
theorem ref12DecTell_any (bs : List UInt8) (hn : bs.length ≤ 10000) (w : World) : Calls Tryd.prog 11 #[.string ⟨bs.toArray⟩] w (DecR w (gnDec bs)) := by
  refine (ref12Decap_any bs hn w).mono ?_
  intro e w' h
  cases hd : gnDec bs with
  | ok id os fs =>
    rw [hd] at h
    obtain ⟨ao, n, cap, rfl, hr, hf⟩ := h
    exact ⟨_, _, _, rfl, hr, hf⟩
  | no inner c =>
    rw [hd] at h
    obtain ⟨rfl, hf⟩ := h
    exact ⟨none, 0, 0, rfl, Rs.nil _, hf⟩

end Go.Proofs.YtjbieljlhjfpiaaDoor
