import Derived.KernelRfl
namespace Go.Proofs.Ytfnlimcgoeknjaa

/-- The register: one turn. -/
def turn (y : BitVec 16) : BitVec 16 := (y >>> 1) ^^^ (if y.getLsbD 0 then 40961#16 else 0#16)
def turns : Nat → BitVec 16 → BitVec 16
  | 0, y => y
  | n + 1, y => turns n (turn y)
def b16 (b : UInt8) : BitVec 16 := BitVec.ofNat 16 b.toNat
def feed (y : BitVec 16) (b : UInt8) : BitVec 16 := turns 8 (y ^^^ b16 b)
def regx (s : BitVec 16) (l : List UInt8) : BitVec 16 := l.foldl feed s
def reg (l : List UInt8) : BitVec 16 := regx 65535#16 l
def crc (l : List UInt8) : BitVec 16 := ~~~ reg l
def sum (l : List UInt8) : List UInt8 := [UInt8.ofNat ((crc l).toNat % 256), UInt8.ofNat ((crc l).toNat / 256)]
def closed (l : List UInt8) : List UInt8 := l ++ sum l

theorem xor_left (a b c : BitVec 16) : a ^^^ (b ^^^ c) = b ^^^ (a ^^^ c) := by rw [← BitVec.xor_assoc, BitVec.xor_comm a, BitVec.xor_assoc]
theorem turn_xor (a b : BitVec 16) : turn (a ^^^ b) = turn a ^^^ turn b := by
  unfold turn
  rw [BitVec.ushiftRight_xor_distrib, BitVec.getLsbD_xor]
  cases a.getLsbD 0 <;> cases b.getLsbD 0 <;> simp [BitVec.xor_assoc]
  · exact BitVec.xor_comm _ _
  · rw [BitVec.xor_comm (b >>> 1), ← BitVec.xor_assoc]; simp
theorem turn_zero : turn 0#16 = 0#16 := by decide
theorem turn_ne {y : BitVec 16} (h : turn y = 0#16) : y = 0#16 := by
  have h15 : (turn y).getLsbD 15 = false := by rw [h]; rfl
  have h0 : y.getLsbD 0 = false := by
    unfold turn at h15
    rw [BitVec.getLsbD_xor, BitVec.getLsbD_ushiftRight] at h15
    cases h0 : y.getLsbD 0
    · rfl
    · rw [h0, BitVec.getLsbD_of_ge y (1 + 15) (by omega)] at h15
      exact absurd h15 (by decide)
  unfold turn at h
  rw [h0] at h
  simp only [Bool.false_eq_true, if_false, BitVec.xor_zero] at h
  apply BitVec.eq_of_getLsbD_eq
  intro i hi
  rw [BitVec.getLsbD_zero]
  cases i with
  | zero => exact h0
  | succ i =>
    have := congrArg (fun x => BitVec.getLsbD x i) h
    simp only [BitVec.getLsbD_ushiftRight, BitVec.getLsbD_zero] at this
    rw [Nat.add_comm]; exact this
theorem turns_xor : ∀ n (a b : BitVec 16), turns n (a ^^^ b) = turns n a ^^^ turns n b
  | 0, _, _ => rfl
  | n + 1, a, b => by simp only [turns]; rw [turn_xor, turns_xor n]
theorem turns_zero : ∀ n, turns n 0#16 = 0#16
  | 0 => rfl
  | n + 1 => by simp only [turns]; rw [turn_zero, turns_zero n]
theorem turns_ne : ∀ n {y : BitVec 16}, turns n y = 0#16 → y = 0#16
  | 0, _, h => h
  | n + 1, _, h => turn_ne (turns_ne n h)
theorem turns_add : ∀ m n (y : BitVec 16), turns (m + n) y = turns n (turns m y)
  | 0, n, y => by simp [turns]
  | m + 1, n, y => by rw [Nat.add_right_comm]; simp only [turns]; rw [turns_add m n]
theorem turns_succ (n : Nat) (y : BitVec 16) : turns (n + 1) y = turn (turns n y) := by rw [turns_add]; rfl
theorem xor_cancel {a b c : BitVec 16} (h : a ^^^ c = b ^^^ c) : a = b := by
  have := congrArg (fun x => x ^^^ c) h
  simpa [BitVec.xor_assoc] using this
theorem xor_zero_iff {a b : BitVec 16} (h : a ^^^ b = 0#16) : a = b := by
  have : a ^^^ b = b ^^^ b := by rw [h]; simp
  exact xor_cancel this
theorem turns_inj (n : Nat) {a b : BitVec 16} (h : turns n a = turns n b) : a = b := by
  apply xor_zero_iff
  apply turns_ne n
  rw [turns_xor, h]; simp

/-- A bit that lies higher is one turn further off. -/
theorem turns_bit (t : Nat) (ht : t < 16) : turns t (1#16 <<< t) = 1#16 := by
  have : ∀ t : Fin 16, turns t.1 (1#16 <<< t.1) = 1#16 := by decide
  exact this ⟨t, ht⟩
set_option maxRecDepth 10000 in
theorem turns_byte (b : UInt8) : turns 8 (b16 b <<< 8) = b16 b := by
  have h : ∀ b : Fin 256, turns 8 (BitVec.ofNat 16 b.1 <<< 8) = BitVec.ofNat 16 b.1 := by decide +kernel
  exact h ⟨b.toNat, b.toNat_lt⟩

theorem feed_xor (a b : BitVec 16) (c : UInt8) : feed (a ^^^ b) c = feed a c ^^^ turns 8 b := by
  unfold feed
  rw [← turns_xor]
  congr 1
  rw [BitVec.xor_assoc, BitVec.xor_assoc, BitVec.xor_comm b]
theorem regx_xor : ∀ (l : List UInt8) (a b : BitVec 16), regx (a ^^^ b) l = regx a l ^^^ turns (8 * l.length) b
  | [], a, b => rfl
  | c :: l, a, b => by
    show regx (feed (a ^^^ b) c) l = regx (feed a c) l ^^^ _
    rw [feed_xor, regx_xor l, List.length_cons, show 8 * (l.length + 1) = 8 + 8 * l.length by omega, turns_add]
theorem regx_append (s : BitVec 16) (l m : List UInt8) : regx s (l ++ m) = regx (regx s l) m := by simp [regx]

/-- One bit that is turned: it is seen in the register as what it has become by the turns behind it. -/
theorem b16_turn (b : UInt8) (t : Nat) (ht : t < 8) : b16 (b ^^^ UInt8.ofNat (2 ^ t)) = b16 b ^^^ (1#16 <<< t) := by
  apply BitVec.eq_of_getLsbD_eq
  intro i hi
  unfold b16
  rw [BitVec.getLsbD_xor, BitVec.getLsbD_ofNat, BitVec.getLsbD_ofNat, BitVec.getLsbD_shiftLeft, UInt8.toNat_xor, Nat.testBit_xor]
  have e : (UInt8.ofNat (2 ^ t)).toNat = 2 ^ t := UInt8.toNat_ofNat_of_lt' (by
    show 2 ^ t < 256
    exact Nat.lt_of_lt_of_le (Nat.pow_lt_pow_right (by omega) ht) (by decide))
  rw [e, Nat.testBit_two_pow]
  simp only [hi, decide_true, Bool.true_and]
  by_cases h : t = i
  · subst h; simp
  · by_cases h2 : i < t
    · simp [h, h2]
    · have : i - t ≠ 0 := by omega
      simp [h, h2, this]
def flip (l : List UInt8) (j : Nat) : List UInt8 := l.set (j / 8) (l.getD (j / 8) 0 ^^^ UInt8.ofNat (2 ^ (j % 8)))
theorem flip_length (l : List UInt8) (j : Nat) : (flip l j).length = l.length := by simp [flip]
theorem regx_flip : ∀ (l : List UInt8) (s : BitVec 16) (j : Nat), j < 8 * l.length → regx s (flip l j) = regx s l ^^^ turns (8 * l.length - j) 1#16
  | [], s, j, h => by simp at h
  | c :: l, s, j, h => by
    by_cases hj : j < 8
    · have e0 : j / 8 = 0 := by omega
      have e1 : j % 8 = j := by omega
      unfold flip
      rw [e0, e1]
      show regx (feed s (c ^^^ UInt8.ofNat (2 ^ j))) l = regx (feed s c) l ^^^ _
      have : feed s (c ^^^ UInt8.ofNat (2 ^ j)) = feed s c ^^^ turns 8 (1#16 <<< j) := by
        unfold feed
        rw [b16_turn _ _ hj, ← turns_xor, BitVec.xor_assoc]
      rw [this, regx_xor]
      congr 1
      rw [← turns_add, List.length_cons, show 8 + 8 * l.length = j + (8 * (l.length + 1) - j) by omega, turns_add, turns_bit j (by omega)]
    · have e0 : j / 8 = (j - 8) / 8 + 1 := by omega
      have e1 : j % 8 = (j - 8) % 8 := by omega
      have e2 : flip (c :: l) j = c :: flip l (j - 8) := by
        unfold flip
        rw [e0, e1]
        simp
      rw [e2]
      show regx (feed s c) (flip l (j - 8)) = regx (feed s c) l ^^^ _
      rw [List.length_cons] at h ⊢
      rw [regx_flip l _ _ (by omega)]
      congr 2
      omega

/-- The sum behind: the register then is one and the same. -/
theorem b16_lohi (s : BitVec 16) : b16 (UInt8.ofNat (s.toNat % 256)) ^^^ (b16 (UInt8.ofNat (s.toNat / 256)) <<< 8) = s := by
  have hs := s.isLt
  apply BitVec.eq_of_getLsbD_eq
  intro i hi
  unfold b16
  rw [BitVec.getLsbD_xor, BitVec.getLsbD_shiftLeft, BitVec.getLsbD_ofNat, BitVec.getLsbD_ofNat]
  have e1 : (UInt8.ofNat (s.toNat % 256)).toNat = s.toNat % 256 := UInt8.toNat_ofNat_of_lt' (by show s.toNat % 256 < 256; omega)
  have e2 : (UInt8.ofNat (s.toNat / 256)).toNat = s.toNat / 256 := UInt8.toNat_ofNat_of_lt' (by show s.toNat / 256 < 256; omega)
  rw [e1, e2, show (256 : Nat) = 2 ^ 8 from rfl, Nat.testBit_mod_two_pow, Nat.testBit_div_two_pow]
  by_cases h : i < 8
  · simp [h, hi, BitVec.getLsbD]
  · have h3 : i - 8 < 16 := by omega
    simp [h, hi, h3, BitVec.getLsbD, show i - 8 + 8 = i by omega]
def pairOf (lo hi : UInt8) : BitVec 16 := b16 lo ^^^ (b16 hi <<< 8)
theorem feed_two (r : BitVec 16) (lo hi : UInt8) : feed (feed r lo) hi = turns 16 (r ^^^ pairOf lo hi) := by
  unfold feed pairOf
  rw [show turns 16 (r ^^^ (b16 lo ^^^ b16 hi <<< 8)) = turns 8 (turns 8 (r ^^^ (b16 lo ^^^ b16 hi <<< 8))) from turns_add 8 8 _, ← BitVec.xor_assoc, turns_xor 8 _ (b16 hi <<< 8), turns_byte]
def K : BitVec 16 := turns 16 65535#16
theorem pairOf_inj {a b c d : UInt8} (h : pairOf a b = pairOf c d) : a = c ∧ b = d := by
  have key : ∀ lo hi : UInt8, (pairOf lo hi).toNat = lo.toNat + 256 * hi.toNat := by
    intro lo hi
    unfold pairOf b16
    have h1 := lo.toNat_lt
    have h2 := hi.toNat_lt
    rw [BitVec.toNat_xor, BitVec.toNat_shiftLeft, BitVec.toNat_ofNat, BitVec.toNat_ofNat, Nat.mod_eq_of_lt (a := lo.toNat) (by omega), Nat.mod_eq_of_lt (a := hi.toNat) (by omega), Nat.shiftLeft_eq, Nat.mod_eq_of_lt (by omega)]
    apply Nat.eq_of_testBit_eq
    intro i
    rw [Nat.testBit_xor, show lo.toNat + 256 * hi.toNat = 2 ^ 8 * hi.toNat + lo.toNat by omega, Nat.testBit_two_pow_mul_add _ (by omega : lo.toNat < 2 ^ 8), Nat.testBit_mul_two_pow]
    by_cases h : i < 8
    · simp [h, show ¬ 8 ≤ i by omega]
    · have : lo.toNat.testBit i = false := Nat.testBit_lt_two_pow (Nat.lt_of_lt_of_le h1 (Nat.pow_le_pow_right (by omega) (by omega : 8 ≤ i)))
      simp [h, this, show 8 ≤ i by omega]
  have h' := congrArg BitVec.toNat h
  rw [key, key] at h'
  have h1 := a.toNat_lt
  have h2 := c.toNat_lt
  exact ⟨UInt8.toNat.inj (by omega), UInt8.toNat.inj (by omega)⟩
theorem reg_two (q : List UInt8) (lo hi : UInt8) : reg (q ++ [lo, hi]) = turns 16 (reg q ^^^ pairOf lo hi) := by
  unfold reg
  rw [regx_append]
  exact feed_two _ _ _
theorem sum_pair (q : List UInt8) : pairOf (UInt8.ofNat ((crc q).toNat % 256)) (UInt8.ofNat ((crc q).toNat / 256)) = crc q := b16_lohi _
theorem xor_crc (q : List UInt8) : reg q ^^^ crc q = 65535#16 := by
  unfold crc
  apply BitVec.eq_of_getLsbD_eq
  intro i hi
  rw [BitVec.getLsbD_xor, BitVec.getLsbD_not]
  have : (65535#16 : BitVec 16) = BitVec.allOnes 16 := by decide
  rw [this, BitVec.getLsbD_allOnes]
  cases (reg q).getLsbD i <;> simp [hi]
theorem reg_closed (q : List UInt8) : reg (closed q) = K := by
  unfold closed sum
  rw [reg_two, sum_pair, xor_crc]; rfl
theorem closed_length (q : List UInt8) : (closed q).length = q.length + 2 := by simp [closed, sum]

/-- Bytes bear their sum just where the register is that one. -/
theorem split_two (l : List UInt8) (h : 2 ≤ l.length) : ∃ q lo hi, l = q ++ [lo, hi] ∧ q = l.take (l.length - 2) := by
  refine ⟨l.take (l.length - 2), l.getD (l.length - 2) 0, l.getD (l.length - 1) 0, ?_, rfl⟩
  apply List.ext_getElem
  · simp; omega
  · intro i h1 h2
    by_cases h3 : i < l.length - 2
    · rw [List.getElem_append_left (by simp; omega)]; simp
    · rw [List.getElem_append_right (by simp; omega)]
      simp only [List.length_take, List.getD_eq_getElem?_getD]
      have h4 : i = l.length - 2 ∨ i = l.length - 1 := by omega
      have hm : min (l.length - 2) l.length = l.length - 2 := by omega
      rcases h4 with rfl | rfl
      · simp [hm, List.getElem?_eq_getElem (show l.length - 2 < l.length by omega)]
      · simp [hm, show l.length - 1 - (l.length - 2) = 1 by omega, List.getElem?_eq_getElem (show l.length - 1 < l.length by omega)]
theorem closed_iff (l : List UInt8) (h : 2 ≤ l.length) : closed (l.take (l.length - 2)) = l ↔ reg l = K := by
  obtain ⟨q, lo, hi, e, eq⟩ := split_two l h
  rw [← eq]
  constructor
  · intro h1; rw [← h1]; exact reg_closed q
  · intro h1
    rw [e, reg_two] at h1
    have h2 : reg q ^^^ pairOf lo hi = 65535#16 := turns_inj 16 h1
    have h3 : pairOf lo hi = crc q := by
      have : reg q ^^^ pairOf lo hi = reg q ^^^ crc q := by rw [h2, xor_crc]
      rw [BitVec.xor_comm, BitVec.xor_comm (reg q)] at this
      exact xor_cancel this
    rw [← sum_pair] at h3
    obtain ⟨h4, h5⟩ := pairOf_inj h3
    rw [e]
    unfold closed sum
    rw [← h4, ← h5]
def opened (l : List UInt8) : Bool := decide (2 ≤ l.length) && decide (reg l = K)

/-- A run of turned bits: what stands in the register. -/
def burst (run : Nat) (k n : Nat) : Nat → BitVec 16
  | 0 => 0#16
  | i + 1 => if run.testBit i ∧ k + i < n then burst run k n i ^^^ (1#16 <<< i) else burst run k n i
def spoil (run k : Nat) (l : List UInt8) : Nat → List UInt8
  | 0 => l
  | i + 1 => if run.testBit i ∧ k + i < 8 * l.length then flip (spoil run k l i) (k + i) else spoil run k l i
theorem spoil_length (run k : Nat) (l : List UInt8) : ∀ i, (spoil run k l i).length = l.length
  | 0 => rfl
  | i + 1 => by
    simp only [spoil]
    split
    · rw [flip_length, spoil_length run k l i]
    · exact spoil_length run k l i
theorem reg_spoil (run k : Nat) (l : List UInt8) : ∀ i, i ≤ 16 → reg (spoil run k l i) = reg l ^^^ turns (8 * l.length - k) (burst run k (8 * l.length) i)
  | 0, _ => by simp [spoil, burst, turns_zero]
  | i + 1, h => by
    simp only [spoil, burst]
    by_cases hc : run.testBit i ∧ k + i < 8 * l.length
    · rw [if_pos hc, if_pos hc]
      unfold reg at *
      rw [regx_flip _ _ _ (by rw [spoil_length]; exact hc.2)]
      have := reg_spoil run k l i (by omega)
      unfold reg at this
      rw [this, spoil_length, turns_xor, BitVec.xor_assoc]
      congr 2
      rw [show 8 * l.length - k = i + (8 * l.length - (k + i)) by omega, turns_add, turns_bit i (by omega)]
    · rw [if_neg hc, if_neg hc]
      exact reg_spoil run k l i (by omega)
theorem burst_low (run k n : Nat) (hr : run.testBit 0 = true) (hk : k < n) : ∀ i, 0 < i → (burst run k n i).getLsbD 0 = true
  | 0, h => by omega
  | i + 1, _ => by
    simp only [burst]
    by_cases h0 : i = 0
    · subst h0
      rw [if_pos ⟨hr, by omega⟩]
      simp [burst]
    · have := burst_low run k n hr hk i (by omega)
      split
      · rw [BitVec.getLsbD_xor, this, BitVec.getLsbD_shiftLeft]
        simp; omega
      · exact this
/-- A run of turned bits, no longer than the register, is always shown. -/
theorem shown (run k : Nat) (l : List UInt8) (hr : run.testBit 0 = true) (hk : k < 8 * l.length) (hK : reg l = K) : reg (spoil run k l 16) ≠ K := by
  intro h
  rw [reg_spoil _ _ _ 16 (by omega), hK] at h
  have h2 : turns (8 * l.length - k) (burst run k (8 * l.length) 16) = 0#16 := by
    have : turns (8 * l.length - k) (burst run k (8 * l.length) 16) ^^^ K = 0#16 ^^^ K := by rw [BitVec.xor_comm, h]; simp
    exact xor_cancel this
  have h3 := burst_low run k (8 * l.length) hr hk 16 (by omega)
  rw [turns_ne _ h2] at h3
  exact absurd h3 (by decide)
end Go.Proofs.Ytfnlimcgoeknjaa
