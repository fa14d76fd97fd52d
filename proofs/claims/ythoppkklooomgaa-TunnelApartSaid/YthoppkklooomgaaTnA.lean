/- tunnel: the plain table: what Add, Del, Get, Encap and Decap answer. -/
import Derived.Test.YthoppkklooomgaaGenLaw
import Derived.Test.YthoppkklooomgaaGre5
import Derived.Test.YthoppkklooomgaaVx
import Derived.Test.YthoppkklooomgaaGreOrd
import Derived.Test.YthoppkklooomgaaMp
namespace Go.Proofs.Ythoppkklooomgaa
open Go.RowKit
set_option linter.unusedVariables false
set_option linter.unusedSimpArgs false
def tunnelS : ByteArray := ⟨#[116, 117, 110, 110, 101, 108]⟩

/-- A tunnel. -/
structure Tn where
  kind : Int
  loc : Nat
  pee : Nat
  id : Nat
  seg : Int
  os : List Opt
  ks : List Nat
  sum : Bool
  seq : Bool
structure Tn.ok (t : Tn) : Prop where
  kind : -9223372036854775808 ≤ t.kind ∧ t.kind ≤ 9223372036854775807
  loc : t.loc < 4294967296
  pee : t.pee < 4294967296
  id : t.id < 4294967296
  seg : -9223372036854775808 ≤ t.seg ∧ t.seg ≤ 9223372036854775807
  ks : ∀ k ∈ t.ks, k < 4294967296
/-- A tunnel that is right. -/
def RightT (t : Tn) : Prop := t.loc ≠ 0 ∧ t.pee ≠ 0 ∧ 0 ≤ t.seg ∧ t.seg < 8 ∧ rightN t.os = 0 ∧ ((t.kind = 1 ∧ t.os.length = 0 ∧ t.id < 16777216) ∨ (t.kind = 2 ∧ t.id < 16777216) ∨ (t.kind = 3 ∧ t.os.length = 0))
instance (t : Tn) : Decidable (RightT t) := by unfold RightT; infer_instance
def rightT (t : Tn) : Bool := decide (RightT t)
def same3 (x y : Tn) : Bool := decide (x.kind = y.kind ∧ x.loc = y.loc ∧ x.pee = y.pee)
def same4 (x y : Tn) : Bool := same3 x y && decide (x.id = y.id)

/-- A tunnel with what it has sent, and accepted. -/
structure TE where
  t : Tn
  next : Nat
  last : Option Nat
structure TE.ok (e : TE) : Prop where
  t : e.t.ok
  next : e.next < 4294967296
  last : ∀ y, e.last = some y → y < 4294967296
/-- A table. -/
structure TA where
  l : List (Int × TE)
  next : Nat

def TA.add (A : TA) (t : Tn) : TA × Int × Int :=
  if rightT t = false then (A, 0, 1)
  else if (A.l.any fun p => same4 p.2.t t) = true then (A, 0, 8)
  else if 64 ≤ A.l.length then (A, 0, 5)
  else (⟨A.l ++ [((A.next : Int), ⟨t, 0, none⟩)], A.next + 1⟩, A.next, 0)
def TA.del (A : TA) (n : Int) : TA × Int := if (mget A.l n).isSome then (⟨mdel A.l n, A.next⟩, 0) else (A, 6)
def TA.get (A : TA) (n : Int) : Option Tn := (mget A.l n).map (·.t)
def TA.set (A : TA) (n : Int) (e : TE) : TA := ⟨mput A.l n e, A.next⟩

/-- What always is. -/
structure TA.Ok (A : TA) : Prop where
  nd : (A.l.map (·.1)).Nodup
  key : ∀ p ∈ A.l, 0 ≤ p.1 ∧ p.1 < A.next
  ok : ∀ p ∈ A.l, p.2.ok
  right : ∀ p ∈ A.l, RightT p.2.t
  one : ∀ p ∈ A.l, ∀ q ∈ A.l, same4 p.2.t q.2.t = true → p = q
  len : A.l.length ≤ 64
theorem TA.Ok.nil : TA.Ok ⟨[], 0⟩ := ⟨by simp, by simp, by simp, by simp, by simp, by simp⟩

/-- A packet. -/
structure Pk where
  src : Nat
  dst : Nat
  proto : Nat
  sport : Nat
  dport : Nat
  b : List UInt8

/-- A frame's flow, and its port. -/
def flowOf (fs : List UInt8) : List UInt8 :=
  fs.take 12 ++ (if 34 ≤ fs.length ∧ fs[12]? = some 8 ∧ fs[13]? = some 0 then (fs.drop 23).take 1 ++ (fs.drop 26).take 8 else [])
def fnv (n : Nat) (c : UInt8) : Nat := (Nat.xor n c.toNat * 16777619) % 4294967296
def portOf (fs : List UInt8) : Nat := 49152 + (flowOf fs).foldl fnv 2166136261 % 16384

def layT (kind : Int) : ByteArray := if kind = 1 then vxlanS else if kind = 2 then geneveS else greS
/-- What is wrong with a frame's size. -/
def sizN (fs : List UInt8) : Int := if fs.length < 14 then 2 else if 9000 < fs.length then 7 else 0
/-- The bytes of a frame in a tunnel. -/
def encT (t : Tn) (next : Nat) (fs : List UInt8) : List UInt8 :=
  if t.kind = 1 then vxOut t.id fs else if t.kind = 2 then gnOut t.id t.os fs else greOut t.sum true t.id t.seq next fs
def pkT (t : Tn) (next : Nat) (fs : List UInt8) : Pk :=
  ⟨t.loc, t.pee, if t.kind = 3 then 47 else 17, if t.kind = 3 then 0 else portOf fs, if t.kind = 1 then 4789 else if t.kind = 2 then 6081 else 0, encT t next fs⟩
def nextT (e : TE) : TE := ⟨e.t, (e.next + 1) % 4294967296, e.last⟩
inductive EncR where
  | ok (p : Pk)
  | no (ls : List ByteArray) (n : Int)
def TA.encap (A : TA) (n : Int) (fs : List UInt8) : TA × EncR :=
  match mget A.l n with
  | none => (A, .no [tunnelS] 6)
  | some e => if sizN fs = 0 then (A.set n (nextT e), .ok (pkT e.t e.next fs)) else (A, .no [tunnelS, layT e.t.kind] (sizN fs))

/-- What is taken out of a packet. -/
inductive TkR where
  | no (ls : List ByteArray) (n : Int)
  | ok (kind : Int) (id : Nat) (keyed : Bool) (os : List Opt) (seqed : Bool) (seq : Nat) (fs : List UInt8)
def inS (inner : Bool) : List ByteArray := if inner then [octetsS] else []
inductive VxRes where
  | ok (id : Nat) (fs : List UInt8)
  | no (inner : Bool) (code : Int)
def vxDec (bs : List UInt8) : VxRes :=
  if bs.length < 8 then .no true 2 else if known bs = false then .no false 3 else if bs.length < 22 then .no false 2 else if 9008 < bs.length then .no false 7 else .ok (be ((bs.drop 4).take 4) / 256) (bs.drop 8)
def takeP (p : Pk) : TkR :=
  if p.proto = 17 ∧ p.dport = 4789 then
    match vxDec p.b with
    | .ok id fs => .ok 1 id true [] false 0 fs
    | .no i c => .no (vxlanS :: inS i) c
  else if p.proto = 17 ∧ p.dport = 6081 then
    match gnDec p.b with
    | .ok id os fs => .ok 2 id true os false 0 fs
    | .no i c => .no (geneveS :: inS i) c
  else if p.proto = 47 then
    match gDec p.b with
    | .ok s k key q seq fs => .ok 3 key k [] q seq fs
    | .no i c => .no (greS :: inS i) c
  else .no [] 12
def isEnd (kind : Int) (loc pee : Nat) (t : Tn) : Bool := decide (t.kind = kind ∧ t.loc = loc ∧ t.pee = pee)
def isIt (kind : Int) (loc pee id : Nat) (keyed : Bool) (t : Tn) : Bool := isEnd kind loc pee t && (decide (t.id = id) && keyed)
/-- The tunnel that something came by; the error, if it came by none. -/
def TA.find (A : TA) (kind : Int) (loc pee id : Nat) (keyed : Bool) : (Int × TE) ⊕ Int :=
  match A.l.find? (fun p => isIt kind loc pee id keyed p.2.t) with
  | some p => .inl p
  | none => .inr (if (A.l.any fun p => isEnd kind loc pee p.2.t) = true then 10 else 9)
def codeO (o : Opt) : Nat := o.cls * 256 + o.typ.toNat
def hasU (ks : List Nat) (x : Nat) : Bool := ks.contains x
def strange (ks : List Nat) (o : Opt) : Bool := crit o.typ && !(hasU ks (codeO o))
/-- What is wrong with it (0: nothing); what the tunnel is behind it. -/
def TE.accepts (e : TE) (os : List Opt) (seqed : Bool) (seq : Nat) : Int :=
  if os.any (strange e.t.ks) = true then 11 else if (e.t.seq && seqed && !(acc e.last seq)) = true then 13 else 0
def TE.behind (e : TE) (os : List Opt) (seqed : Bool) (seq : Nat) : TE :=
  if os.any (strange e.t.ks) = true then e else if (e.t.seq && seqed) = true then ⟨e.t, e.next, accNext e.last seq⟩ else e
inductive DecR where
  | ok (n : Int) (fs : List UInt8)
  | no (ls : List ByteArray) (n : Int)
def TA.decap (A : TA) (p : Pk) : TA × DecR :=
  match takeP p with
  | .no ls n => (A, .no (tunnelS :: ls) n)
  | .ok kind id keyed os seqed seq fs =>
    match A.find kind p.dst p.src id keyed with
    | .inr n => (A, .no [tunnelS] n)
    | .inl (n, e) => (A.set n (e.behind os seqed seq), if e.accepts os seqed seq = 0 then .ok n fs else .no [tunnelS] (e.accepts os seqed seq))
end Go.Proofs.Ythoppkklooomgaa