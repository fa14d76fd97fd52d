/- octets: the reader; slices.Clone at []byte. -/
import Derived.Test.YthoppkklooomgaaErr
namespace Go.Proofs.Ythoppkklooomgaa
open Go.RowKit
set_option linter.unusedVariables false
theorem info_u8 : (Try.prog.info? 5).map (fun i => (i.zero, i.size, i.bytes)) = some (some (.int .u8 0), 1, 1) := by kernel_rfl

/-- append at []byte: what is appended to is owned, what is appended is read. -/
theorem wpl_append {w : World} {ops : Array Oper} {rest : List Oper} {o : Oper} {a : Act} {Q : Exit → Act → World → Prop} (s x : Operand)
    (hgd : o.guard = none) (hop : o.op = .call { callee := .builtin .append, args := #[s, x], argTypes := #[36, 36] })
    {ao : Option Addr} {n cap : Nat} (hev : a.eval s = .slice ao n cap) {bo : Option Addr} {m c : Nat} (hex : a.eval x = .slice bo m c)
    {xs ys : List UInt8} (h1 : OB w 5 ao n cap xs) (h2 : Bs w bo m c ys) (hb : n + m ≤ big)
    (hK : ∀ ao' cap' w', OB w' 5 ao' (n + m) cap' (xs ++ ys) → Fr (At ao) w w' → (ao' = ao ∨ ∀ a, ao' = some a → w.heap.size ≤ a.block) → (ao ≠ none → ao' ≠ none) →
      wpList Try.prog ops Q rest (a.put o.dst (.slice ao' (n + m) cap')) w') :
    wpList Try.prog ops Q (o :: rest) a w := by
  obtain ⟨i0, hi, hz0, hz1, hz2⟩ := info_parts info_u8
  refine wpList_append_U w hgd s x 36 hop 5 i0 (.int .u8 0) 1 1 Try.underlying36 hi hz0 hz1 hz2 rfl (by decide) ao n cap hev bo m c hex (bytesV xs) h1.2 (bytesV ys) h2.2 (by rw [bytesV_length, h2.1]; omega) (bytesV_one ys)
    (by unfold big at hb; omega) (by unfold big at hb; omega) ?_
  intro ao' cap' w' r1 r2 r3 _ r5
  exact hK ao' cap' w' ⟨by rw [h1.1, h2.1]; simp, by rw [bytesV_append]; exact r1⟩ r2 r3 r5

/-- slices.Clone at []byte. -/
def Cloned (w : World) (n : Nat) (bs : List UInt8) (e : Ending) (w' : World) : Prop :=
  ∃ ao cap, e = .returned (.slice ao n cap) ∧ OB w' 5 ao n cap bs ∧ Fr No w w' ∧ (∀ a, ao = some a → w.heap.size ≤ a.block)

theorem cloneB_any {w : World} {ao : Option Addr} {n cap : Nat} {bs : List UInt8} (h : Bs w ao n cap bs) (hn : n ≤ big) : Calls Try.prog 28 #[.slice ao n cap] w (Cloned w n bs) := by
  cases ao with
  | none =>
    have h1 := h.2.nocap rfl
    have h2 := h.2.le
    obtain rfl : cap = 0 := h1
    obtain rfl : n = 0 := by omega
    have hb : bs = [] := List.eq_nil_of_length_eq_zero h.1.symm
    subst hb
    clear h h2 hn
    have hnil : ∀ wx, (binOp .eql 36 (.slice none 0 0) (.slice none 0 0)).run Try.prog wx = .ok (.bool true) wx := fun wx => Lib.run_eql_slice_nil wx 36 5 none 0 0 0 0 Try.underlying36
    go_enter Try.func28, Try.ntmps28
    go_wp2
    go_ret
    exact ⟨none, 0, rfl, OB.nil _ _, Fr.refl _ _, fun a h => by cases h⟩
  | some a =>
    have hnil : ∀ wx, (binOp .eql 36 (.slice (some a) n cap) (.slice none 0 0)).run Try.prog wx = .ok (.bool false) wx := fun wx => Lib.run_eql_slice_nil wx 36 5 (some a) n cap 0 0 Try.underlying36
    have HH := Lib.hid h
    clear h
    have HN := Lib.hid hn
    clear hn
    go_enter Try.func28, Try.ntmps28
    go_wp2_with (at_builtin; refine wpl_append (.tmp 5) (.tmp 6) rfl rfl rfl rfl (OB.made [] (by decide) (by rfl) rfl (by simp)) (HH.out.no ((Fr.refl _ _).alloc _)) (by have := HN.out; omega) ?_; intro ao' cap' w1 ho hf hd hz)
    go_ret
    refine ⟨ao', cap', rfl, by simpa using ho, ((Fr.refl _ _).alloc _).then hf ?_, ?_⟩
    · rintro i hi ⟨b, hb, rfl⟩; cases hb; simp at hi
    · intro b hb
      rcases hd with hd | hd
      · rw [hd] at hb; cases hb; simp
      · have := hd b hb; simp at this; omega

/-- The reader at block rb has the bytes bs left; its memory lies in S. -/
def Rd (S : Nat → Prop) (w : World) (rb : Nat) (bs : List UInt8) : Prop :=
  ∃ ao n cap, w.heap[rb]? = some (.cells #[.slice ao n cap] 154 (0, 0)) ∧ Bs w ao n cap bs ∧ Out (Is rb) ao ∧ S rb ∧ (bs ≠ [] → ∀ a, ao = some a → S a.block)

theorem Rd.fr {S U : Nat → Prop} {w w' : World} {rb : Nat} {bs : List UInt8} (h : Rd S w rb bs) (hf : Fr U w w') (hs : ∀ k, S k → ¬ U k) : Rd S w' rb bs := by
  obtain ⟨ao, n, cap, h1, h2, h3, h4, h5⟩ := h
  refine ⟨ao, n, cap, hf.heap h1 (hs _ h4), ?_, h3, h4, h5⟩
  cases bs with
  | nil => exact ⟨h2.1, h2.2.empty w w'⟩
  | cons b bs => exact h2.fr hf (fun a ha => hs _ (h5 (by simp) a ha))
theorem Rd.no {S : Nat → Prop} {w w' : World} {rb : Nat} {bs : List UInt8} (h : Rd S w rb bs) (hf : Fr No w w') : Rd S w' rb bs := h.fr hf (fun _ _ h => h)
/-- The blocks from a on, below b. -/
def Iv (a b : Nat) : Nat → Prop := fun k => a ≤ k ∧ k < b

/-- The world behind a store into the one cell of block rb. -/
theorem one_set {w : World} {rb : Nat} {v u : Value} {t : Nat} (h : w.heap[rb]? = some (.cells #[v] t (0, 0))) : (w.setCell ⟨rb, 0, none⟩ u).heap[rb]? = some (.cells #[u] t (0, 0)) := by
  have := heap_setCell_same w rb 0 #[v] t u h
  simpa using this

theorem Fr.set1 (w : World) (rb : Nat) (u : Value) : Fr (Is rb) w (w.setCell ⟨rb, 0, none⟩ u) := Fr.setCell (Fr.refl (Is rb) w) (p := ⟨rb, 0, none⟩) (.inl (show rb = rb from rfl)) u

def TakeOk (S : Nat → Prop) (w : World) (rb n : Nat) (bs : List UInt8) (e : Ending) (w' : World) : Prop :=
  ∃ ao, e = .returned (.tuple #[.slice ao n n, .nilIface]) ∧ Bs w' ao n n (bs.take n) ∧ Rd S w' rb (bs.drop n) ∧ Fr (Is rb) w w' ∧ Out (Is rb) ao
def TakeNo (w : World) (e : Ending) (w' : World) : Prop :=
  ∃ b, e = .returned (.tuple #[.slice none 0 0, .iface 107 (.pointer (some ⟨b, 0, none⟩))]) ∧ Err w' (.iface 107 (.pointer (some ⟨b, 0, none⟩))) [octetsS] 2 ∧ Fr No w w'

theorem take_ok {S : Nat → Prop} {w : World} {rb n : Nat} {bs : List UInt8} (h : Rd S w rb bs) (hn : n ≤ bs.length) : Calls Try.prog 67 #[.pointer (some ⟨rb, 0, none⟩), .int .i64 n] w (TakeOk S w rb n bs) := by
  obtain ⟨ao, m, c, h1, h2, h3, h4, h5⟩ := h
  have hc := cell_of_one h1
  have hf := free_of_one h1
  have hmc := h2.2.le
  have hcc := h2.2.capLe
  have hnm : n ≤ m := by rw [h2.1]; exact hn
  have H1 := Lib.hid h1
  have H2 := Lib.hid h2
  have H3 := Lib.hid h3
  have HN := Lib.hid hn
  have H4 := Lib.hid h4
  have H5 := Lib.hid h5
  clear h1 h2 h3 h4 h5 hn
  have key : ∀ ao2 ao3 c3, ao2 = ao → ((ao3 = if c = n then ao else ao.map (·.add n)) ∧ c3 = c - n) →
      TakeOk S w rb n bs (.returned (.tuple #[.slice ao2 n n, .nilIface])) (w.setCell ⟨rb, 0, none⟩ (.slice ao3 (m - n) c3)) := by
    rintro ao2 ao3 c3 rfl ⟨h3, rfl⟩
    have hfr : Fr (Is rb) w (w.setCell ⟨rb, 0, none⟩ (.slice ao3 (m - n) (c - n))) := Fr.set1 _ _ _
    have hsub : ∀ a, ao3 = some a → ∃ b, ao2 = some b ∧ a.block = b.block := by
      intro a ha
      rw [h3] at ha
      split at ha
      · exact ⟨a, ha, rfl⟩
      · cases ao2 with
        | none => simp at ha
        | some b => simp at ha; subst ha; exact ⟨b, rfl, Addr.add_block _ _⟩
    refine ⟨ao2, rfl, ?_, ⟨ao3, m - n, c - n, one_set H1.out, ?_, ?_, H4.out, ?_⟩, hfr, H3.out⟩
    · have := (H2.out.cut 0 n n (Nat.zero_le _) (Nat.le_refl _) (by omega) hnm (a' := ao2) (by split <;> simp [Addr.add])).fr hfr H3.out
      simpa using this
    · have := (H2.out.cut n m c hnm hmc (Nat.le_refl _) (Nat.le_refl _) (a' := ao3) h3)
      have h4 := this.fr hfr (fun a ha hs => by
        obtain ⟨b, hb, he⟩ := hsub a ha
        exact H3.out b hb (by simp only [Is] at hs ⊢; omega))
      have e1 : (bs.drop n).take (m - n) = bs.drop n := by rw [List.take_of_length_le]; rw [H2.out.1]; simp
      rwa [e1] at h4
    · intro a ha hs
      obtain ⟨b, hb, he⟩ := hsub a ha
      exact H3.out b hb (by simp only [Is] at hs ⊢; omega)
    · intro hd a ha
      obtain ⟨b, hb, he⟩ := hsub a ha
      rw [he]
      exact H5.out (by rintro rfl; simp at hd) b hb
  have HK := Lib.hid key
  clear key
  go_enter Try.func67, Try.ntmps67
  go_wp2
  all_goals go_ret2
  · have e1 : c = n := by assumption
    refine HK.out _ _ _ rfl ⟨by rw [if_pos e1], by omega⟩
  · have e1 : ¬ c = n := by assumption
    refine HK.out _ _ _ rfl ⟨by rw [if_neg e1], rfl⟩

theorem take_no {S : Nat → Prop} {w : World} {rb n : Nat} {bs : List UInt8} (h : Rd S w rb bs) (hn : bs.length < n) : Calls Try.prog 67 #[.pointer (some ⟨rb, 0, none⟩), .int .i64 n] w (TakeNo w) := by
  obtain ⟨ao, m, c, h1, h2, h3, h4, h5⟩ := h
  have hc := cell_of_one h1
  have hnm : m < n := by rw [h2.1]; exact hn
  clear h1 h2 h3 hn
  go_enter Try.func67, Try.ntmps67
  go_wp2_with (go_at_call 70; refine (owrong_any _ _).mono ?_; rintro e w1 ⟨b, rfl, he, hf⟩)
  go_ret2
  exact ⟨b, rfl, he, hf⟩

/-- The number that bytes are, the first one the greatest. -/
def be (bs : List UInt8) : Nat := bs.foldl (fun n c => n * 256 + c.toNat) 0
theorem be_snoc (bs : List UInt8) (c : UInt8) : be (bs ++ [c]) = be bs * 256 + c.toNat := by simp [be]
theorem be_from (bs : List UInt8) : ∀ a : Nat, bs.foldl (fun n c => n * 256 + c.toNat) a < (a + 1) * 256 ^ bs.length := by
  induction bs with
  | nil => intro a; simp
  | cons c bs ih =>
    intro a
    have h := ih (a * 256 + c.toNat)
    rw [List.foldl_cons, List.length_cons, Nat.pow_succ]
    have hc := c.toNat_lt
    refine Nat.lt_of_lt_of_le h ?_
    rw [Nat.mul_comm (256 ^ bs.length) 256, ← Nat.mul_assoc]
    exact Nat.mul_le_mul_right _ (by omega)
theorem be_lt (bs : List UInt8) : be bs < 256 ^ bs.length := by simpa [be] using be_from bs 0

theorem or_step (n c : Nat) (hn : n < 16777216) (hc : c < 256) : bits .or .u32 ((n : Int) * 256 % 4294967296) ((c : Int) % 4294967296) = ((n * 256 + c : Nat) : Int) := by
  rw [show ((n : Int) * 256 % 4294967296) = ((n * 256 : Nat) : Int) by omega, show ((c : Int) % 4294967296) = (c : Int) by omega, u32_or_nat _ _ (by omega) (by omega), nat_join8 _ _ (by omega) hc]
theorem be_take_lt (L : List UInt8) (k : Nat) (hk : k < 4) : be (L.take k) < 16777216 := by
  have h := be_lt (L.take k)
  have h2 : (L.take k).length ≤ 3 := Nat.le_trans (List.length_take_le _ _) (by omega)
  have h3 : 256 ^ (L.take k).length ≤ 256 ^ 3 := Nat.pow_le_pow_right (by omega) h2
  omega

def NumOk (S : Nat → Prop) (k : IntKind) (w : World) (rb n : Nat) (bs : List UInt8) (e : Ending) (w' : World) : Prop :=
  e = .returned (.tuple #[.int k (be (bs.take n)), .nilIface]) ∧ Rd S w' rb (bs.drop n) ∧ Fr (Is rb) w w'
def NumNo (k : IntKind) (w : World) (e : Ending) (w' : World) : Prop :=
  ∃ b, e = .returned (.tuple #[.int k 0, .iface 107 (.pointer (some ⟨b, 0, none⟩))]) ∧ Err w' (.iface 107 (.pointer (some ⟨b, 0, none⟩))) [octetsS] 2 ∧ Fr No w w'

theorem number32_ok {S : Nat → Prop} {w : World} {rb : Nat} {bs : List UInt8} (h : Rd S w rb bs) (hn : 4 ≤ bs.length) : Calls Try.prog 66 #[.pointer (some ⟨rb, 0, none⟩), .int .i64 4] w (NumOk S .u32 w rb 4 bs) := by
  have H := Lib.hid h
  clear h
  go_enter Try.func66, Try.ntmps66
  go_wp2_with (go_at_call 67; refine (take_ok H.out (n := 4) hn).mono ?_; rintro e w1 ⟨ao, rfl, hb, hr, hf, ho⟩)
  have hL : (bs.take 4).length = 4 := by simp; omega
  obtain ⟨a, rfl⟩ := hb.some (by omega)
  obtain ⟨L, hLe⟩ : ∃ L, L = bs.take 4 := ⟨_, rfl⟩
  have HE : Hid (L = bs.take 4) := hLe
  rw [← hLe] at hL hb
  clear hLe
  have HL := Lib.hid hL
  have HB := Lib.hid hb
  clear hL hb
  go_loop [4, 17] (fun n i => ∃ k : Nat, k ≤ 4 ∧ i = .int .i64 k ∧ n = .int .u32 (be (L.take k))) (fun _ i => 4 - (intOf i).toNat)
  case atStart => exact ⟨0, Nat.zero_le _, rfl, rfl⟩
  case round =>
    obtain ⟨k, hk, rfl, rfl⟩ := hrel
    by_cases hlt : k < 4
    · obtain ⟨c, hc⟩ := at_lt (bs := L) (k := k) (by rw [HL.out]; exact hlt)
      have hcell := HB.out.at hc
      have HK := Lib.hid hc
      clear hc
      go_wp2
      go_round
      case rel =>
        refine ⟨k + 1, by omega, by go_num, ?_⟩
        rw [or_step _ _ (be_take_lt L k hlt) c.toNat_lt, take_succ_at HK.out, be_snoc]
      case measure => simp [intOf]; omega
    · go_wp2
      go_ret2
      have e1 : L.take k = bs.take 4 := by rw [List.take_of_length_le (by have := HL.out; omega), HE.out]
      exact ⟨by rw [e1]; rfl, hr, hf⟩

theorem number32_no {S : Nat → Prop} {w : World} {rb : Nat} {bs : List UInt8} (h : Rd S w rb bs) (hn : bs.length < 4) : Calls Try.prog 66 #[.pointer (some ⟨rb, 0, none⟩), .int .i64 4] w (NumNo .u32 w) := by
  have H := Lib.hid h
  clear h
  go_enter Try.func66, Try.ntmps66
  go_wp2_with (go_at_call 67; refine (take_no H.out (n := 4) hn).mono ?_; rintro e w1 ⟨b, rfl, he, hf⟩)
  refine wp_loop_rounds 1 ?_
  rw [rounds_succ]
  go_wp2
  go_ret2
  exact ⟨b, rfl, he, hf⟩

theorem rU32_ok {S : Nat → Prop} {w : World} {rb : Nat} {bs : List UInt8} (h : Rd S w rb bs) (hn : 4 ≤ bs.length) : Calls Try.prog 57 #[.pointer (some ⟨rb, 0, none⟩)] w (NumOk S .u32 w rb 4 bs) := by
  go_enter Try.func57, Try.ntmps57
  go_wp2_with (go_at_call 66; refine (number32_ok h hn).mono ?_; rintro e w1 ⟨rfl, hr, hf⟩)
  go_ret2
  exact ⟨rfl, hr, hf⟩
theorem rU32_no {S : Nat → Prop} {w : World} {rb : Nat} {bs : List UInt8} (h : Rd S w rb bs) (hn : bs.length < 4) : Calls Try.prog 57 #[.pointer (some ⟨rb, 0, none⟩)] w (NumNo .u32 w) := by
  go_enter Try.func57, Try.ntmps57
  go_wp2_with (go_at_call 66; refine (number32_no h hn).mono ?_; rintro e w1 ⟨b, rfl, he, hf⟩)
  go_ret2
  exact ⟨b, rfl, he, hf⟩

/-- octets.Read -/
def ReadOk (w : World) (bs : List UInt8) (e : Ending) (w' : World) : Prop := ∃ rb, e = .returned (.pointer (some ⟨rb, 0, none⟩)) ∧ w.heap.size ≤ rb ∧ Rd (Iv w.heap.size w'.heap.size) w' rb bs ∧ Fr No w w'
theorem oread_any {w : World} {ao : Option Addr} {n cap : Nat} {bs : List UInt8} (h : Bs w ao n cap bs) (hn : n ≤ big) : Calls Try.prog 56 #[.slice ao n cap] w (ReadOk w bs) := by
  have H := Lib.hid h
  have HN := Lib.hid hn
  clear h hn
  go_enter Try.func56, Try.ntmps56
  go_wp2_with (go_at_call 28; refine (cloneB_any H.out HN.out).mono ?_; rintro e w1 ⟨ao', cap', rfl, ho, hf, hx⟩)
  go_ret
  have h2 := hf.size
  refine ⟨w1.heap.size, rfl, h2, ⟨ao', n, cap', heap_alloc_new w1 _, ho.bs.no ((Fr.refl _ _).alloc _), ?_, ⟨h2, by simp⟩, ?_⟩, hf.alloc _⟩
  · intro a ha hs
    have := ho.2.lt a ha
    simp only [Is] at hs
    omega
  · intro _ a ha
    have := ho.2.lt a ha
    exact ⟨hx a ha, by simp; omega⟩

/-- (*Reader).Rest -/
def RestOk (S : Nat → Prop) (w : World) (rb : Nat) (bs : List UInt8) (e : Ending) (w' : World) : Prop :=
  ∃ ao, e = .returned (.slice ao bs.length bs.length) ∧ Bs w' ao bs.length bs.length bs ∧ Rd S w' rb [] ∧ Fr (Is rb) w w' ∧ Out (Is rb) ao
theorem rRest_any {S : Nat → Prop} {w : World} {rb : Nat} {bs : List UInt8} (h : Rd S w rb bs) : Calls Try.prog 58 #[.pointer (some ⟨rb, 0, none⟩)] w (RestOk S w rb bs) := by
  have H := Lib.hid h
  obtain ⟨ao, n, cap, h1, h2, h3, h4, h5⟩ := h
  have hc := cell_of_one h1
  obtain ⟨rfl, h2⟩ := h2
  clear h1 h2 h3 h4 h5
  go_enter Try.func58, Try.ntmps58
  go_wp2_with (go_at_call 67; refine (take_ok H.out (Nat.le_refl _)).mono ?_; rintro e w1 ⟨ao', rfl, hb, hr, hf, ho⟩)
  go_ret
  exact ⟨ao', rfl, by simpa using hb, by simpa using hr, hf, ho⟩

end Go.Proofs.Ythoppkklooomgaa