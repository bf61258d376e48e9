import Derived.KernelRfl
namespace Go.Proofs.Ytfnlimcgoeknjaa

/-- m bits from place s on as a number: the first is the highest. -/
def num (f : Nat → Bool) (s : Nat) : Nat → Nat
  | 0 => 0
  | m + 1 => 2 * num f s m + (f (s + m)).toNat
theorem num_lt (f : Nat → Bool) (s : Nat) : ∀ m, num f s m < 2 ^ m
  | 0 => by simp [num]
  | m + 1 => by
    have := num_lt f s m
    have h2 : (f (s + m)).toNat ≤ 1 := Bool.toNat_le _
    simp only [num, Nat.pow_succ]
    omega
theorem num_congr {f g : Nat → Bool} {s t : Nat} : ∀ {m : Nat}, (∀ j, j < m → f (s + j) = g (t + j)) → num f s m = num g t m
  | 0, _ => rfl
  | m + 1, h => by
    simp only [num]
    rw [num_congr (fun j hj => h j (by omega)), h m (by omega)]
theorem num_testBit (f : Nat → Bool) (s : Nat) : ∀ m j, (num f s m).testBit j = (decide (j < m) && f (s + (m - 1 - j)))
  | 0, j => by simp [num]
  | m + 1, 0 => by
    have e : num f s (m + 1) % 2 = (f (s + m)).toNat := by
      have h2 : (f (s + m)).toNat ≤ 1 := Bool.toNat_le _
      simp only [num]; omega
    rw [Nat.testBit_zero]
    simp only [e]
    cases h : f (s + m) <;> simp [h]
  | m + 1, j + 1 => by
    rw [Nat.testBit_succ]
    have e : num f s (m + 1) / 2 = num f s m := by
      have h2 : (f (s + m)).toNat ≤ 1 := Bool.toNat_le _
      simp only [num]; omega
    rw [e, num_testBit f s m j]
    by_cases h : j < m
    · simp [h, show m - 1 - j = m - (j + 1) by omega]
    · simp [h]

def bitAt (b : List Bool) (j : Nat) : Bool := b.getD j false
theorem bitAt_out {b : List Bool} {j : Nat} (h : b.length ≤ j) : bitAt b j = false := by simp [bitAt, List.getD_eq_getElem?_getD, List.getElem?_eq_none h]
theorem bitAt_snoc (b : List Bool) (x : Bool) (j : Nat) : bitAt (b ++ [x]) j = if j = b.length then x else bitAt b j := by
  unfold bitAt
  rw [List.getD_eq_getElem?_getD, List.getD_eq_getElem?_getD]
  by_cases h : j < b.length
  · rw [List.getElem?_append_left h, if_neg (by omega)]
  · by_cases h2 : j = b.length
    · subst h2; simp
    · rw [if_neg h2, List.getElem?_eq_none (by simp; omega), List.getElem?_eq_none (by omega)]
theorem bitAt_append_left {b c : List Bool} {j : Nat} (h : j < b.length) : bitAt (b ++ c) j = bitAt b j := by
  unfold bitAt
  rw [List.getD_eq_getElem?_getD, List.getD_eq_getElem?_getD, List.getElem?_append_left h]
theorem bitAt_append_right (b c : List Bool) (j : Nat) : bitAt (b ++ c) (b.length + j) = bitAt c j := by
  unfold bitAt
  rw [List.getD_eq_getElem?_getD, List.getD_eq_getElem?_getD, List.getElem?_append_right (by omega)]
  simp
theorem bits_ext {b c : List Bool} (h : b.length = c.length) (hb : ∀ j, j < b.length → bitAt b j = bitAt c j) : b = c := by
  apply List.ext_getElem h
  intro i h1 h2
  have := hb i h1
  simpa [bitAt, List.getD_eq_getElem?_getD, List.getElem?_eq_getElem h1, List.getElem?_eq_getElem h2] using this

/-- The bytes of bits, with noughts up to a whole one. -/
def byteOf (b : List Bool) (i : Nat) : UInt8 := UInt8.ofNat (num (bitAt b) (8 * i) 8)
def pack (b : List Bool) : List UInt8 := (List.range ((b.length + 7) / 8)).map (byteOf b)
theorem byteOf_nat (b : List Bool) (i : Nat) : (byteOf b i).toNat = num (bitAt b) (8 * i) 8 := UInt8.toNat_ofNat_of_lt' (num_lt _ _ 8)
theorem byteOf_testBit (b : List Bool) (i j : Nat) : (byteOf b i).toNat.testBit j = (decide (j < 8) && bitAt b (8 * i + (7 - j))) := by
  rw [byteOf_nat, num_testBit]
theorem pack_length (b : List Bool) : (pack b).length = (b.length + 7) / 8 := by simp [pack]
theorem byte_ext {x y : UInt8} (h : ∀ j, j < 8 → x.toNat.testBit j = y.toNat.testBit j) : x = y := by
  apply UInt8.toNat.inj
  apply Nat.eq_of_testBit_eq
  intro j
  by_cases hj : j < 8
  · exact h j hj
  · have hx : x.toNat < 2 ^ j := Nat.lt_of_lt_of_le x.toNat_lt (Nat.pow_le_pow_right (by omega) (by omega : 8 ≤ j))
    have hy : y.toNat < 2 ^ j := Nat.lt_of_lt_of_le y.toNat_lt (Nat.pow_le_pow_right (by omega) (by omega : 8 ≤ j))
    rw [Nat.testBit_lt_two_pow hx, Nat.testBit_lt_two_pow hy]
theorem pow_byte {t : Nat} (h : t < 8) : (UInt8.ofNat (2 ^ t)).toNat = 2 ^ t := UInt8.toNat_ofNat_of_lt' (by
  show 2 ^ t < 256
  exact Nat.lt_of_lt_of_le (Nat.pow_lt_pow_right (by omega) h) (by decide))
theorem byteOf_snoc (b : List Bool) (x : Bool) (i : Nat) : byteOf (b ++ [x]) i = if i = b.length / 8 ∧ x = true then byteOf b i ||| UInt8.ofNat (2 ^ (7 - b.length % 8)) else byteOf b i := by
  by_cases h : i = b.length / 8 ∧ x = true
  · rw [if_pos h]
    obtain ⟨h1, rfl⟩ := h
    apply byte_ext
    intro j hj
    rw [byteOf_testBit, UInt8.toNat_or, Nat.testBit_or, byteOf_testBit, pow_byte (by omega), Nat.testBit_two_pow, bitAt_snoc]
    simp only [hj, decide_true, Bool.true_and]
    by_cases h2 : 8 * i + (7 - j) = b.length
    · rw [if_pos h2]
      have : 7 - b.length % 8 = j := by omega
      simp [this]
    · rw [if_neg h2]
      have : ¬ (7 - b.length % 8 = j) := by omega
      simp [this]
  · rw [if_neg h]
    apply byte_ext
    intro j hj
    rw [byteOf_testBit, byteOf_testBit, bitAt_snoc]
    by_cases h2 : 8 * i + (7 - j) = b.length
    · rw [if_pos h2, h2, bitAt_out (Nat.le_refl _)]
      have hx : x = false := by
        cases x
        · rfl
        · exact absurd ⟨by omega, rfl⟩ h
      rw [hx]
    · rw [if_neg h2]
theorem pack_getD (b : List Bool) (i : Nat) : (pack b).getD i 0 = byteOf b i := by
  by_cases h : i < (b.length + 7) / 8
  · simp [pack, List.getD_eq_getElem?_getD, h]
  · have : byteOf b i = 0 := by
      apply byte_ext
      intro j hj
      rw [byteOf_testBit, bitAt_out (by omega)]
      simp
    rw [this, List.getD_eq_getElem?_getD, List.getElem?_eq_none (by rw [pack_length]; omega)]
    rfl
theorem bytes_ext {l m : List UInt8} (h : l.length = m.length) (hg : ∀ i, i < l.length → l.getD i 0 = m.getD i 0) : l = m := by
  apply List.ext_getElem h
  intro i h1 h2
  have := hg i h1
  simpa [List.getD_eq_getElem?_getD, List.getElem?_eq_getElem h1, List.getElem?_eq_getElem h2] using this
/-- The bytes with room for one bit more. -/
def grown (b : List Bool) : List UInt8 := if b.length % 8 = 0 then pack b ++ [0] else pack b
theorem grown_length (b : List Bool) : (grown b).length = (b.length + 8) / 8 := by
  unfold grown
  split
  · simp [pack_length]; omega
  · rw [pack_length]; omega
theorem grown_getD (b : List Bool) (i : Nat) : (grown b).getD i 0 = byteOf b i := by
  unfold grown
  split
  · by_cases h : i < (pack b).length
    · rw [List.getD_eq_getElem?_getD, List.getElem?_append_left h, ← List.getD_eq_getElem?_getD, pack_getD]
    · have e : byteOf b i = 0 := by rw [← pack_getD, List.getD_eq_getElem?_getD, List.getElem?_eq_none (by omega)]; rfl
      rw [e, List.getD_eq_getElem?_getD]
      by_cases h2 : i = (pack b).length
      · subst h2; simp
      · rw [List.getElem?_eq_none (by simp; omega)]; rfl
  · exact pack_getD b i
theorem pack_snoc (b : List Bool) (x : Bool) : pack (b ++ [x]) = if x = true then (grown b).set (b.length / 8) ((grown b).getD (b.length / 8) 0 ||| UInt8.ofNat (2 ^ (7 - b.length % 8))) else grown b := by
  have hl : (pack (b ++ [x])).length = (grown b).length := by rw [pack_length, grown_length, List.length_append]; rfl
  cases x
  · rw [if_neg (by decide)]
    apply bytes_ext hl
    intro i _
    rw [pack_getD, grown_getD, byteOf_snoc, if_neg (by simp)]
  · rw [if_pos rfl]
    apply bytes_ext (by rw [List.length_set]; exact hl)
    intro i hi
    rw [hl] at hi
    rw [pack_getD, byteOf_snoc]
    by_cases h : i = b.length / 8
    · rw [if_pos ⟨h, rfl⟩, ← h]
      rw [List.getD_eq_getElem?_getD, List.getElem?_set, if_pos rfl, if_pos hi]
      simp only [Option.getD_some]
      rw [grown_getD]
    · rw [if_neg (fun h2 => h h2.1), List.getD_eq_getElem?_getD, List.getElem?_set, if_neg (Ne.symm h), ← List.getD_eq_getElem?_getD, grown_getD]

/-- The bits of bytes. -/
def ofBytes (l : List UInt8) : List Bool := (List.range (8 * l.length)).map fun j => (l.getD (j / 8) 0).toNat.testBit (7 - j % 8)
theorem ofBytes_length (l : List UInt8) : (ofBytes l).length = 8 * l.length := by simp [ofBytes]
theorem bitAt_ofBytes (l : List UInt8) (j : Nat) : bitAt (ofBytes l) j = (l.getD (j / 8) 0).toNat.testBit (7 - j % 8) := by
  by_cases h : j < 8 * l.length
  · simp [bitAt, ofBytes, List.getD_eq_getElem?_getD, h]
  · rw [bitAt_out (by rw [ofBytes_length]; omega), List.getD_eq_getElem?_getD, List.getElem?_eq_none (by omega)]
    simp
theorem bitAt_pack (b : List Bool) (j : Nat) : bitAt (ofBytes (pack b)) j = bitAt b j := by
  rw [bitAt_ofBytes, pack_getD, byteOf_testBit]
  have e : 8 * (j / 8) + (7 - (7 - j % 8)) = j := by omega
  rw [e]
  simp; omega
theorem pack_ofBytes (l : List UInt8) : pack (ofBytes l) = l := by
  apply bytes_ext (by rw [pack_length, ofBytes_length]; omega)
  intro i _
  rw [pack_getD]
  apply byte_ext
  intro j hj
  rw [byteOf_testBit, bitAt_ofBytes, show (8 * i + (7 - j)) / 8 = i by omega, show 7 - (8 * i + (7 - j)) % 8 = j by omega]
  simp [hj]
theorem ofBytes_append (l m : List UInt8) : ofBytes (l ++ m) = ofBytes l ++ ofBytes m := by
  apply bits_ext (by simp [ofBytes_length]; omega)
  intro j _
  by_cases h : j < (ofBytes l).length
  · rw [bitAt_append_left h, bitAt_ofBytes, bitAt_ofBytes]
    rw [ofBytes_length] at h
    rw [List.getD_eq_getElem?_getD, List.getElem?_append_left (by omega), ← List.getD_eq_getElem?_getD]
  · obtain ⟨i, rfl⟩ : ∃ i, j = (ofBytes l).length + i := ⟨j - (ofBytes l).length, by omega⟩
    rw [bitAt_append_right, bitAt_ofBytes, bitAt_ofBytes, ofBytes_length]
    rw [show (8 * l.length + i) / 8 = l.length + i / 8 by omega, show (8 * l.length + i) % 8 = i % 8 by omega]
    rw [List.getD_eq_getElem?_getD, List.getElem?_append_right (by omega), ← List.getD_eq_getElem?_getD, Nat.add_sub_cancel_left]

/-- A number's lowest bits, the highest first. -/
def putBits (n width : Nat) : List Bool := (List.range width).map fun i => n.testBit (width - 1 - i)
theorem putBits_length (n width : Nat) : (putBits n width).length = width := by simp [putBits]
theorem putBits_bit (n width i : Nat) (h : i < width) : bitAt (putBits n width) i = n.testBit (width - 1 - i) := by
  simp [bitAt, putBits, List.getD_eq_getElem?_getD, h]
theorem num_put (b c : List Bool) (n width : Nat) : num (bitAt (b ++ putBits n width ++ c)) b.length width = n % 2 ^ width := by
  apply Nat.eq_of_testBit_eq
  intro j
  rw [num_testBit, Nat.testBit_mod_two_pow]
  by_cases h : j < width
  · rw [List.append_assoc, bitAt_append_right, bitAt_append_left (by rw [putBits_length]; omega), putBits_bit _ _ _ (by omega), show width - 1 - (width - 1 - j) = j by omega]
  · simp [h]
/-- The first bits of a number that is laid: they grow one by one. -/
theorem putBits_take (n width k : Nat) (h : k < width) : (putBits n width).take (k + 1) = (putBits n width).take k ++ [n.testBit (width - 1 - k)] := by
  rw [List.take_add_one]
  simp [putBits, h]
end Go.Proofs.Ytfnlimcgoeknjaa
