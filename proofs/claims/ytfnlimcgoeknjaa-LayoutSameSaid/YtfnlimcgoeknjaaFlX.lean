import Ieee.Arith
import Derived.Laws.FloatArith
import Derived.Laws.ComplexArith
namespace Go.Proofs.Ytfnlimcgoeknjaa.Fl
open Go Ieee

/-- The rung of the whole number N (0 < N < 2^53). -/
def rungOf (N : Nat) : Nat := (N.log2 + 1022) * 2 ^ 52 + N * 2 ^ (52 - N.log2)

/-- The word of a whole number. -/
def F (n : Int) : Nat := if n = 0 then 0 else double.word (decide (n < 0)) (rungOf n.natAbs)

/-- A number with its sign. -/
def sg (s : Bool) (m : Nat) : Int := if s then -(m : Int) else m
/-- A datum stands for the whole number n. -/
def Rep (d : Datum) (n : Int) : Prop :=
  ∃ s m p, d = .number s m p ∧ ∀ K : Nat, 0 ≤ p + K → sg s m * 2 ^ (p + K).toNat = n * 2 ^ K

theorem two_pow_pos (k : Nat) : 0 < 2 ^ k := Nat.two_pow_pos k

theorem log2_bounds {N : Nat} (h : 0 < N) : 2 ^ N.log2 ≤ N ∧ N < 2 ^ (N.log2 + 1) := ⟨Nat.log2_self_le (by omega), Nat.lt_log2_self⟩

theorem log2_le {N : Nat} (h0 : 0 < N) (h : N < 2 ^ 53) : N.log2 ≤ 52 := by
  have := (Nat.log2_lt (by omega : N ≠ 0)).2 h
  omega

/-- N shifted up so that it has 53 digits. -/
theorem shifted {N : Nat} (h0 : 0 < N) (h : N < 2 ^ 53) : 2 ^ 52 ≤ N * 2 ^ (52 - N.log2) ∧ N * 2 ^ (52 - N.log2) < 2 ^ 53 := by
  obtain ⟨h1, h2⟩ := log2_bounds h0
  have h3 := log2_le h0 h
  constructor
  · calc 2 ^ 52 = 2 ^ N.log2 * 2 ^ (52 - N.log2) := by rw [← Nat.pow_add]; congr 1; omega
      _ ≤ _ := Nat.mul_le_mul_right _ h1
  · calc N * 2 ^ (52 - N.log2) < 2 ^ (N.log2 + 1) * 2 ^ (52 - N.log2) := Nat.mul_lt_mul_of_pos_right h2 (two_pow_pos _)
      _ = 2 ^ 53 := by rw [← Nat.pow_add]; congr 1; omega

theorem double_lp : double.leastPlace = -1074 := by decide
theorem double_binade : double.binade = 2 ^ 52 := rfl
theorem double_infRung : double.infRung = 2047 * 2 ^ 52 := by decide
theorem double_signWeight : double.signWeight = 2 ^ 63 := by decide

theorem rung_lt {N : Nat} (h0 : 0 < N) (h : N < 2 ^ 53) : rungOf N < 2047 * 2 ^ 52 ∧ 2 ^ 52 ≤ rungOf N := by
  have ⟨h1, h2⟩ := shifted h0 h
  have h3 := log2_le h0 h
  unfold rungOf
  omega

theorem read_word (neg : Bool) {r : Nat} (h : r < 2 ^ 63) : double.word neg r / double.signWeight % 2 = neg.toNat ∧ double.word neg r % double.signWeight = r := by
  rw [double_signWeight]
  cases neg <;> simp only [Format.word, double_signWeight, if_true, if_false, Bool.false_eq_true, Bool.toNat_true, Bool.toNat_false] <;> omega

theorem read_F {n : Int} (h0 : n ≠ 0) (h : n.natAbs < 2 ^ 53) : double.read (F n) = .number (decide (n < 0)) (n.natAbs * 2 ^ (52 - n.natAbs.log2)) ((n.natAbs.log2 : Int) - 52) := by
  have hp : 0 < n.natAbs := by omega
  have ⟨hr1, hr2⟩ := rung_lt hp h
  have ⟨h1, h2⟩ := shifted hp h
  have h3 := log2_le hp h
  unfold F
  rw [if_neg h0]
  obtain ⟨e1, e2⟩ := read_word (decide (n < 0)) (r := rungOf n.natAbs) (by omega)
  unfold Format.read
  rw [e1, e2, double_binade, double_infRung, double_lp]
  simp only
  rw [if_neg (by omega), if_pos (by omega)]
  have hd : rungOf n.natAbs / 2 ^ 52 = n.natAbs.log2 + 1023 := by
    unfold rungOf
    rw [Nat.mul_comm, Nat.mul_add_div (two_pow_pos 52)]
    have : n.natAbs * 2 ^ (52 - n.natAbs.log2) / 2 ^ 52 = 1 := by omega
    omega
  have hm : rungOf n.natAbs % 2 ^ 52 = n.natAbs * 2 ^ (52 - n.natAbs.log2) - 2 ^ 52 := by
    unfold rungOf
    rw [Nat.mul_comm, Nat.mul_add_mod]
    omega
  rw [hd, hm]
  have e3 : ((decide (n < 0)).toNat == 1) = decide (n < 0) := by cases decide (n < 0) <;> rfl
  rw [e3]
  rw [Datum.number.injEq]
  exact ⟨rfl, by omega, by omega⟩

theorem read_zero (neg : Bool) : double.read (double.word neg 0) = .number neg 0 (-1074) := by cases neg <;> decide


theorem cut_exact (way : Toward) (neg : Bool) (n drop : Nat) (h : n % 2 ^ drop = 0) (hd : n ≠ 0) : way.cut neg n drop = n / 2 ^ drop := by
  have hle : 2 ^ drop ≤ n := by
    rcases Nat.lt_or_ge n (2 ^ drop) with h1 | h1
    · rw [Nat.mod_eq_of_lt h1] at h; omega
    · exact h1
  have hdl : drop ≤ n.log2 := (Nat.le_log2 hd).2 hle
  have hmin : min drop (n.log2 + 2) = drop := by omega
  unfold Toward.cut
  rw [hmin]
  simp only [Nat.shiftLeft_eq, Nat.one_mul]
  rw [h]
  have hp := two_pow_pos drop
  have e1 : (2 ^ drop == 2 * 0) = false := by simp
  have e2 : decide (2 ^ drop < 2 * 0) = false := by simp
  cases way <;> simp [e1]

theorem log2_shift {m : Nat} (hm : m ≠ 0) (k : Nat) : (m * 2 ^ k).log2 = m.log2 + k := by
  have hp := two_pow_pos k
  obtain ⟨h1, h2⟩ := log2_bounds (N := m) (by omega)
  have hmk : m * 2 ^ k ≠ 0 := Nat.mul_ne_zero hm (by omega)
  rw [Nat.log2_eq_iff hmk]
  constructor
  · rw [Nat.pow_add]; exact Nat.mul_le_mul_right _ h1
  · rw [show m.log2 + k + 1 = m.log2 + 1 + k by omega, Nat.pow_add]; exact Nat.mul_lt_mul_of_pos_right h2 hp

/-- Exactly a whole number: its word. -/
theorem nearest_exact (neg : Bool) (m : Nat) (p : Int) (N : Nat) (h0 : 0 < N) (h : N < 2 ^ 53) (K : Nat) (hK : 0 ≤ p + K) (hv : m * 2 ^ (p + K).toNat = N * 2 ^ K) :
    double.nearest neg m p = double.word neg (rungOf N) := by
  have hm : m ≠ 0 := by
    rintro rfl
    have := Nat.mul_pos h0 (two_pow_pos K)
    omega
  have hlog : (m.log2 : Int) + p = N.log2 := by
    have h1 : (m * 2 ^ (p + K).toNat).log2 = m.log2 + (p + K).toNat := log2_shift hm _
    have h2 : (N * 2 ^ K).log2 = N.log2 + K := log2_shift (by omega) _
    rw [hv, h2] at h1
    omega
  have h3 := log2_le h0 h
  unfold Format.nearest
  rw [if_neg hm, double_lp, double_infRung, double_binade]
  have hlast : max (p + (m.log2 : Int) - (double.fractionBits : Nat)) (-1074) = (N.log2 : Int) - 52 := by
    show max (p + (m.log2 : Int) - (52 : Nat)) (-1074) = _
    omega
  rw [hlast]
  have hkept : Toward.even.cut neg (m <<< (p - ((N.log2 : Int) - 52)).toNat) (((N.log2 : Int) - 52) - p).toNat = N * 2 ^ (52 - N.log2) := by
    rw [Nat.shiftLeft_eq]
    rcases Int.le_total ((N.log2 : Int) - 52) p with hle | hle
    · have e0 : (((N.log2 : Int) - 52) - p).toNat = 0 := by omega
      rw [e0, cut_exact _ _ _ _ (by simp; omega) (Nat.mul_ne_zero hm (by have := two_pow_pos (p - ((N.log2 : Int) - 52)).toNat; omega))]
      simp only [Nat.pow_zero, Nat.div_one]
      have hp := two_pow_pos (K + N.log2)
      refine Nat.eq_of_mul_eq_mul_right hp ?_
      rw [Nat.mul_assoc, Nat.mul_assoc, ← Nat.pow_add, ← Nat.pow_add, show (p - ((N.log2 : Int) - 52)).toNat + (K + N.log2) = (p + K).toNat + 52 by omega, show 52 - N.log2 + (K + N.log2) = K + 52 by omega, Nat.pow_add, Nat.pow_add, ← Nat.mul_assoc, ← Nat.mul_assoc, hv]
    · have e0 : (p - ((N.log2 : Int) - 52)).toNat = 0 := by omega
      have hm2 : m = N * 2 ^ (52 - N.log2) * 2 ^ (((N.log2 : Int) - 52) - p).toNat := by
        refine Nat.eq_of_mul_eq_mul_right (two_pow_pos (p + K).toNat) ?_
        rw [hv, Nat.mul_assoc, Nat.mul_assoc, ← Nat.pow_add, ← Nat.pow_add]
        congr 2
        omega
      rw [e0, Nat.pow_zero, Nat.mul_one, cut_exact _ _ _ _ (by rw [hm2]; exact Nat.mul_mod_left _ _) hm]
      conv => lhs; rw [hm2]
      exact Nat.mul_div_cancel _ (two_pow_pos _)
  show double.word neg (min ((((N.log2 : Int) - 52) - (-1074)).toNat * 2 ^ 52 + Toward.even.cut neg (m <<< (p - ((N.log2 : Int) - 52)).toNat) (((N.log2 : Int) - 52) - p).toNat) (2047 * 2 ^ 52)) = _
  rw [hkept]
  have ⟨hr1, hr2⟩ := rung_lt h0 h
  have : (((N.log2 : Int) - 52) - (-1074)).toNat = N.log2 + 1022 := by omega
  rw [this]
  have h5 : (N.log2 + 1022) * 2 ^ 52 + N * 2 ^ (52 - N.log2) = rungOf N := rfl
  rw [h5, Nat.min_eq_left (by omega)]

/-- The word of a whole number, or a nought with a sign. -/
def IsI (b : Nat) (n : Int) : Prop := b = F n ∨ (n = 0 ∧ b = 2 ^ 63)

theorem sg_abs (n : Int) : sg (decide (n < 0)) n.natAbs = n := by
  unfold sg
  by_cases h : n < 0 <;> simp only [h, decide_true, decide_false, Bool.false_eq_true, if_true, if_false] <;> omega

theorem sg_mul (s t : Bool) (m n : Nat) : sg s m * sg t n = sg (s ^^ t) (m * n) := by
  cases s <;> cases t <;> simp [sg, Int.neg_mul, Int.mul_neg]

theorem sg_shift (s : Bool) (m k : Nat) : sg s (m * 2 ^ k) = sg s m * 2 ^ k := by
  cases s <;> simp [sg, Int.neg_mul]

theorem signed_eq (s : Bool) (m k : Nat) : signed s m k = sg s m * 2 ^ k := by
  rw [← sg_shift]
  simp [signed, sg, Nat.shiftLeft_eq]

theorem rep_F {n : Int} (h : n.natAbs < 2 ^ 53) : Rep (double.read (F n)) n := by
  by_cases h0 : n = 0
  · subst h0
    exact ⟨false, 0, -1074, by decide, fun K _ => by simp [sg]⟩
  · have h3 := log2_le (by omega : 0 < n.natAbs) h
    refine ⟨_, _, _, read_F h0 h, fun K hK => ?_⟩
    have h4 : (52 - n.natAbs.log2) + (((n.natAbs.log2 : Int) - 52) + K).toNat = K := by omega
    rw [sg_shift, Int.mul_assoc, ← Int.pow_add, h4, sg_abs]

theorem IsI.rep {b : Nat} {n : Int} (h : IsI b n) (hn : n.natAbs < 2 ^ 53) : Rep (double.read b) n := by
  rcases h with rfl | ⟨rfl, rfl⟩
  · exact rep_F hn
  · exact ⟨true, 0, -1074, by decide, fun K _ => by simp [sg]⟩

theorem IsI.F_ne {b : Nat} {n : Int} (h : IsI b n) (hn : n ≠ 0) : b = F n := h.resolve_right (fun h => hn h.1)

theorem pow_posI (k : Nat) : (0 : Int) < 2 ^ k := by exact_mod_cast two_pow_pos k
theorem mul_cancel {a b : Int} {k : Nat} (h : a * 2 ^ k = b * 2 ^ k) : a = b := Int.eq_of_mul_eq_mul_right (by have := pow_posI k; omega) h

theorem sg_inj {s : Bool} {m : Nat} {n : Int} (h : sg s m = n) (hn : n ≠ 0) : s = decide (n < 0) ∧ m = n.natAbs := by
  subst h
  cases s <;> simp [sg] at hn ⊢ <;> omega

/-- What is written of a whole number is its word. -/
theorem write_rep {d : Datum} {n : Int} (h : Rep d n) (hn : n.natAbs < 2 ^ 53) : IsI (double.write d) n := by
  obtain ⟨s, m, p, rfl, hv⟩ := h
  have hK := hv (-p).toNat (by omega)
  by_cases hm : m = 0
  · subst hm
    have h0 : n = 0 := by
      refine mul_cancel (k := (-p).toNat) ?_
      rw [← hK]
      cases s <;> simp [sg]
    subst h0
    cases s
    · exact .inl (by simp [Format.write, Format.nearest, Format.word, F])
    · exact .inr ⟨rfl, by simp [Format.write, Format.nearest, Format.word, double_signWeight]⟩
  · have hn0 : n ≠ 0 := by
      rintro rfl
      have : sg s m = 0 := mul_cancel (k := (p + (-p).toNat).toNat) (by rw [hK]; simp)
      cases s <;> simp [sg] at this <;> omega
    rw [← sg_shift] at hK
    have hnk : n * 2 ^ (-p).toNat ≠ 0 := Int.mul_ne_zero hn0 (by have := pow_posI (-p).toNat; omega)
    obtain ⟨e1, e2⟩ := sg_inj hK hnk
    have e3 : decide (n * 2 ^ (-p).toNat < 0) = decide (n < 0) := by
      have hp := pow_posI (-p).toNat
      by_cases h : n < 0
      · have := Int.mul_neg_of_neg_of_pos h hp
        simp [h, this]
      · have := Int.mul_nonneg (by omega : 0 ≤ n) (Int.le_of_lt hp)
        simp only [decide_eq_decide]
        omega
    rw [Int.natAbs_mul, Int.natAbs_pow] at e2
    refine .inl ?_
    show double.nearest s m p = F n
    rw [nearest_exact s m p n.natAbs (by omega) hn (-p).toNat (by omega) e2]
    unfold F
    rw [if_neg hn0, e1, e3]

theorem Rep.sum {d e : Datum} {x y : Int} (h : Rep d x) (k : Rep e y) : ∃ r, d.sum e = some r ∧ Rep r (x + y) := by
  obtain ⟨s, m, p, rfl, hv⟩ := h
  obtain ⟨t, n, q, rfl, hw⟩ := k
  refine ⟨_, rfl, _, _, _, rfl, fun K hK => ?_⟩
  generalize htot : signed s m (p - min p q).toNat + signed t n (q - min p q).toNat = total
  have e1 : sg (if total = 0 then s && t else decide (total < 0)) total.natAbs = total := by
    by_cases h0 : total = 0
    · subst h0; cases (s && t) <;> simp [sg]
    · rw [if_neg h0]; exact sg_abs _
  rw [e1, ← htot, signed_eq, signed_eq, Int.add_mul, Int.mul_assoc, Int.mul_assoc, ← Int.pow_add, ← Int.pow_add, Int.add_mul]
  rw [← hv K (by omega), ← hw K (by omega)]
  congr 3 <;> omega

theorem Rep.opposite {d : Datum} {x : Int} (h : Rep d x) : Rep d.opposite (-x) := by
  obtain ⟨s, m, p, rfl, hv⟩ := h
  refine ⟨_, _, _, rfl, fun K hK => ?_⟩
  have e : sg (!s) m = - sg s m := by cases s <;> simp [sg]
  rw [e, Int.neg_mul, Int.neg_mul, hv K hK]

theorem Rep.product {d e : Datum} {x y : Int} (h : Rep d x) (k : Rep e y) : ∃ r, d.product e = some r ∧ Rep r (x * y) := by
  obtain ⟨s, m, p, rfl, hv⟩ := h
  obtain ⟨t, n, q, rfl, hw⟩ := k
  refine ⟨_, rfl, _, _, _, rfl, fun K hK => ?_⟩
  have h1 := hv (-p).toNat (by omega)
  have h2 := hw (-q).toNat (by omega)
  refine mul_cancel (k := (-p).toNat + (-q).toNat) ?_
  rw [← sg_mul]
  have h3 : (sg s m * 2 ^ (p + (-p).toNat).toNat) * (sg t n * 2 ^ (q + (-q).toNat).toNat) = (x * 2 ^ (-p).toNat) * (y * 2 ^ (-q).toNat) := by rw [h1, h2]
  have h4 : sg s m * sg t n * 2 ^ (p + q + K).toNat * 2 ^ ((-p).toNat + (-q).toNat) = (sg s m * 2 ^ (p + (-p).toNat).toNat) * (sg t n * 2 ^ (q + (-q).toNat).toNat) * 2 ^ K := by
    have e : ∀ a b : Int, ∀ i j k l m : Nat, i + j = k + l + m → a * b * 2 ^ i * 2 ^ j = (a * 2 ^ k) * (b * 2 ^ l) * 2 ^ m := by
      intro a b i j k l m hh
      have : (2 : Int) ^ i * 2 ^ j = 2 ^ k * 2 ^ l * 2 ^ m := by rw [← Int.pow_add, ← Int.pow_add, ← Int.pow_add, hh]
      rw [Int.mul_assoc, this]
      ac_rfl
    exact e _ _ _ _ _ _ _ (by omega)
  rw [h4, h3, Int.pow_add]
  ac_rfl

theorem mulI {a b : Nat} {x y : Int} (ha : IsI a x) (hb : IsI b y) (hx : x.natAbs < 2 ^ 53) (hy : y.natAbs < 2 ^ 53) (hxy : (x * y).natAbs < 2 ^ 53) : ∃ r, double.mul a b = some r ∧ IsI r (x * y) := by
  obtain ⟨r, h1, h2⟩ := (ha.rep hx).product (hb.rep hy)
  exact ⟨_, by rw [Format.mul, h1]; rfl, write_rep h2 hxy⟩
theorem addI {a b : Nat} {x y : Int} (ha : IsI a x) (hb : IsI b y) (hx : x.natAbs < 2 ^ 53) (hy : y.natAbs < 2 ^ 53) (hxy : (x + y).natAbs < 2 ^ 53) : ∃ r, double.add a b = some r ∧ IsI r (x + y) := by
  obtain ⟨r, h1, h2⟩ := (ha.rep hx).sum (hb.rep hy)
  exact ⟨_, by rw [Format.add, h1]; rfl, write_rep h2 hxy⟩
theorem subI {a b : Nat} {x y : Int} (ha : IsI a x) (hb : IsI b y) (hx : x.natAbs < 2 ^ 53) (hy : y.natAbs < 2 ^ 53) (hxy : (x - y).natAbs < 2 ^ 53) : ∃ r, double.sub a b = some r ∧ IsI r (x - y) := by
  obtain ⟨r, h1, h2⟩ := (ha.rep hx).sum (hb.rep hy).opposite
  exact ⟨_, by rw [Format.sub, h1]; rfl, write_rep h2 hxy⟩

theorem compare_mul (a b : Int) (k : Nat) : compare (a * 2 ^ k) (b * 2 ^ k) = compare a b := by
  have hp := pow_posI k
  have h1 : a * 2 ^ k < b * 2 ^ k ↔ a < b := Int.mul_lt_mul_right hp
  have h2 : a * 2 ^ k = b * 2 ^ k ↔ a = b := ⟨mul_cancel, fun h => by rw [h]⟩
  simp only [compare, compareOfLessAndEq, h1, h2]

theorem orderI {a b : Nat} {x y : Int} (ha : IsI a x) (hb : IsI b y) (hx : x.natAbs < 2 ^ 53) (hy : y.natAbs < 2 ^ 53) : double.order a b = some (compare x y) := by
  obtain ⟨s, m, p, h1, hv⟩ := ha.rep hx
  obtain ⟨t, n, q, h2, hw⟩ := hb.rep hy
  rw [Format.order, h1, h2]
  show some (compare (signed s m (p - min p q).toNat) (signed t n (q - min p q).toNat)) = _
  rw [signed_eq, signed_eq, ← compare_mul _ _ (min p q + ((- min p q).toNat : Nat)).toNat, Int.mul_assoc, Int.mul_assoc, ← Int.pow_add, ← Int.pow_add]
  have e1 := hv (- min p q).toNat (by omega)
  have e2 := hw (- min p q).toNat (by omega)
  rw [show (p - min p q).toNat + (min p q + ((- min p q).toNat : Nat)).toNat = (p + ((- min p q).toNat : Nat)).toNat by omega, show (q - min p q).toNat + (min p q + ((- min p q).toNat : Nat)).toNat = (q + ((- min p q).toNat : Nat)).toNat by omega, e1, e2, compare_mul]

theorem xor_sign {b : Nat} (h : b < 2 ^ 63) : b ^^^ 2 ^ 63 = 2 ^ 63 + b := by
  apply Nat.eq_of_testBit_eq
  intro i
  rw [Nat.testBit_xor, Nat.testBit_two_pow]
  rcases Nat.lt_trichotomy i 63 with hi | hi | hi
  · rw [Nat.testBit_two_pow_add_gt hi]
    have : decide (63 = i) = false := by simp; omega
    rw [this, Bool.xor_false]
  · subst hi
    rw [Nat.testBit_two_pow_add_eq]
    simp
  · have h1 : b.testBit i = false := Nat.testBit_lt_two_pow (Nat.lt_of_lt_of_le h (Nat.pow_le_pow_right (by omega) (by omega)))
    have h2 : (2 ^ 63 + b).testBit i = false := Nat.testBit_lt_two_pow (Nat.lt_of_lt_of_le (by omega : 2 ^ 63 + b < 2 ^ 64) (Nat.pow_le_pow_right (by omega) (by omega)))
    have h3 : decide (63 = i) = false := by simp; omega
    rw [h1, h2, h3]; rfl

theorem xor_sign' {b : Nat} (h : b < 2 ^ 63) : (2 ^ 63 + b) ^^^ 2 ^ 63 = b := by
  rw [← xor_sign h, Nat.xor_assoc, Nat.xor_self, Nat.xor_zero]

theorem negFloat_eq (b : Nat) : Op.negFloat .f64 b = b ^^^ 2 ^ 63 := rfl

theorem negI {b : Nat} {n : Int} (h : IsI b n) (hn : n.natAbs < 2 ^ 53) : IsI (Op.negFloat .f64 b) (-n) := by
  rw [negFloat_eq]
  rcases h with rfl | ⟨rfl, rfl⟩
  · by_cases h0 : n = 0
    · subst h0
      exact .inr ⟨rfl, by decide⟩
    · have ⟨h1, h2⟩ := rung_lt (by omega : 0 < n.natAbs) hn
      refine .inl ?_
      unfold F
      rw [if_neg h0, if_neg (by omega), Int.natAbs_neg]
      by_cases hlt : n < 0
      · have : ¬ -n < 0 := by omega
        simp only [hlt, this, decide_true, decide_false, Format.word, double_signWeight, if_true, Bool.false_eq_true, if_false]
        exact xor_sign' (by omega)
      · have : -n < 0 := by omega
        simp only [hlt, this, decide_true, decide_false, Format.word, double_signWeight, if_true, Bool.false_eq_true, if_false]
        exact xor_sign (by omega)
  · exact .inl (by decide)

theorem addZero {b : Nat} {n : Int} (h : IsI b n) (hn : n.natAbs < 2 ^ 53) : double.add b 0 = some (F n) := by
  obtain ⟨r, h1, h2⟩ := addI h (.inl rfl : IsI 0 0) hn (by decide) (by rw [Int.add_zero]; exact hn)
  rw [h1]
  rw [Int.add_zero] at h2
  rcases h2 with rfl | ⟨rfl, rfl⟩
  · rfl
  · rcases h with rfl | ⟨_, rfl⟩
    · revert h1; decide
    · revert h1; decide

theorem nearest_F (n : Int) (hn : n.natAbs < 2 ^ 53) : floatOfInt .f64 n = F n := by
  have h : Rep (.number (decide (n < 0)) n.natAbs 0) n := ⟨_, _, _, rfl, fun K _ => by rw [sg_abs]; congr 2; omega⟩
  have h2 := write_rep h hn
  have e : floatOfInt .f64 n = double.write (.number (decide (n < 0)) n.natAbs 0) := rfl
  rw [e]
  rcases h2 with h2 | ⟨rfl, _⟩
  · exact h2
  · decide

theorem toIntI {b : Nat} {n : Int} (h : IsI b n) (hn : n.natAbs < 2 ^ 53) : floatToIntVal .f64 b .i64 = some n := by
  obtain ⟨s, m, p, h1, hv⟩ := h.rep hn
  have e : (double.read b).toInt .zero = some n := by
    rw [h1]
    show some (signed s (Toward.zero.cut s (m <<< p.toNat) (-p).toNat) 0) = _
    congr 1
    rw [signed_eq, Int.pow_zero, Int.mul_one]
    have hK := hv (-p).toNat (by omega)
    by_cases hm : m = 0
    · subst hm
      have h0 : n = 0 := by
        refine mul_cancel (k := (-p).toNat) ?_
        rw [← hK]
        cases s <;> simp [sg]
      subst h0
      have : Toward.zero.cut s (0 <<< p.toNat) (-p).toNat = 0 := by simp [Toward.cut]
      rw [this]
      cases s <;> rfl
    · rw [Nat.shiftLeft_eq]
      rw [← sg_shift] at hK
      have hd : m * 2 ^ p.toNat = n.natAbs * 2 ^ (-p).toNat := by
        have h3 : (sg s (m * 2 ^ (p + ((-p).toNat : Nat)).toNat)).natAbs = (n * 2 ^ (-p).toNat).natAbs := by rw [hK]
        have h4 : (sg s (m * 2 ^ (p + ((-p).toNat : Nat)).toNat)).natAbs = m * 2 ^ (p + ((-p).toNat : Nat)).toNat := by
            generalize m * 2 ^ (p + ((-p).toNat : Nat)).toNat = z
            cases s <;> simp [sg]
        rw [h4, Int.natAbs_mul, Int.natAbs_pow] at h3
        rw [← show (p + ((-p).toNat : Nat)).toNat = p.toNat by omega]
        exact h3
      have hne : m * 2 ^ p.toNat ≠ 0 := Nat.mul_ne_zero hm (by have := two_pow_pos p.toNat; omega)
      rw [cut_exact _ _ _ _ (by rw [hd]; exact Nat.mul_mod_left _ _) hne]
      have hdiv : m * 2 ^ p.toNat / 2 ^ (-p).toNat = n.natAbs := by rw [hd]; exact Nat.mul_div_cancel _ (two_pow_pos _)
      rw [hdiv]
      refine mul_cancel (k := (-p).toNat) ?_
      rw [← hK, sg_shift]
      have h5 : (m : Int) * 2 ^ (p + ((-p).toNat : Nat)).toNat = n.natAbs * 2 ^ (-p).toNat := by
        rw [show (p + ((-p).toNat : Nat)).toNat = p.toNat by omega]
        exact_mod_cast hd
      cases s
      · simpa [sg] using h5.symm
      · simp only [sg, if_true, Int.neg_mul]
        rw [h5]
  unfold floatToIntVal
  show (match (double.read b).toInt .zero with
    | some n => if IntKind.i64.min ≤ n ∧ n ≤ IntKind.i64.max then some n else none
    | none => none) = some n
  rw [e]
  simp only
  have h1 : IntKind.i64.min = -9223372036854775808 := by decide
  have h2 : IntKind.i64.max = 9223372036854775807 := by decide
  rw [h1, h2, if_pos (by omega)]

theorem cmp_gt (x y : Int) : (some (compare x y) == some Ordering.gt) = decide (y < x) := by
  rcases Int.lt_trichotomy x y with h | h | h
  · simp [compare, compareOfLessAndEq, h]; omega
  · subst h; simp [compare, compareOfLessAndEq]
  · have h1 : ¬ x < y := by omega
    have h2 : x ≠ y := by omega
    simp [compare, compareOfLessAndEq, h1, h2, h]
theorem cmp_lt (x y : Int) : (some (compare x y) == some Ordering.lt) = decide (x < y) := by
  rcases Int.lt_trichotomy x y with h | h | h
  · simp [compare, compareOfLessAndEq, h]
  · subst h; simp [compare, compareOfLessAndEq]
  · have h1 : ¬ x < y := by omega
    have h2 : x ≠ y := by omega
    simp [compare, compareOfLessAndEq, h1, h2]
theorem cmp_eq (x y : Int) : (some (compare x y) == some Ordering.eq) = decide (x = y) := by
  rcases Int.lt_trichotomy x y with h | h | h
  · have h2 : x ≠ y := by omega
    simp [compare, compareOfLessAndEq, h, h2]
  · subst h; simp [compare, compareOfLessAndEq]
  · have h1 : ¬ x < y := by omega
    have h2 : x ≠ y := by omega
    simp [compare, compareOfLessAndEq, h1, h2]
section
variable {a b : Nat} {x y : Int} (ha : IsI a x) (hb : IsI b y) (hx : x.natAbs < 2 ^ 53) (hy : y.natAbs < 2 ^ 53)
include ha hb hx hy
theorem ord_gt : (FloatKind.f64.format.order a b == some Ordering.gt) = decide (y < x) := by
  rw [← cmp_gt, ← orderI ha hb hx hy]; rfl
theorem ord_lt : (FloatKind.f64.format.order a b == some Ordering.lt) = decide (x < y) := by
  rw [← cmp_lt, ← orderI ha hb hx hy]; rfl
theorem ord_eq : (FloatKind.f64.format.order a b == some Ordering.eq) = decide (x = y) := by
  rw [← cmp_eq, ← orderI ha hb hx hy]; rfl
end
theorem isF (x : Int) : IsI (F x) x := .inl rfl
theorem isF0 : IsI 0 0 := .inl rfl

end Go.Proofs.Ytfnlimcgoeknjaa.Fl

namespace Go.Proofs.Ytfnlimcgoeknjaa.Fl
open Go Ieee

/-- The least place, as a number. -/
def U : Nat := 1074
/-- A number's size in the least units. -/
def mags (m : Nat) (p : Int) : Nat := m * 2 ^ (p + U).toNat

theorem mags_abs (s : Bool) (m : Nat) (p : Int) : sg s m * 2 ^ (p + U).toNat = sg s (mags m p) := by
  unfold mags; rw [sg_shift]

theorem read_place {b : Nat} {s : Bool} {m : Nat} {p : Int} (h : double.read b = .number s m p) : 0 ≤ p + U := by
  unfold Format.read at h
  rw [double_lp] at h
  simp only at h
  split at h
  · rw [Datum.number.injEq] at h; unfold U; omega
  · split at h
    · rw [Datum.number.injEq] at h; unfold U; omega
    · split at h <;> cases h

/-- Two numbers are held against each other by their sizes in the least units. -/
theorem order_fin {a b : Nat} {s t : Bool} {m n : Nat} {p q : Int} (ha : double.read a = .number s m p) (hb : double.read b = .number t n q) :
    double.order a b = some (compare (sg s (mags m p)) (sg t (mags n q))) := by
  have h1 := read_place ha
  have h2 := read_place hb
  rw [Format.order, ha, hb]
  show some (compare (signed s m (p - min p q).toNat) (signed t n (q - min p q).toNat)) = _
  rw [signed_eq, signed_eq, ← compare_mul _ _ (min p q + U).toNat, Int.mul_assoc, Int.mul_assoc, ← Int.pow_add, ← Int.pow_add, ← mags_abs, ← mags_abs]
  rw [show (p - min p q).toNat + (min p q + U).toNat = (p + U).toNat by omega, show (q - min p q).toNat + (min p q + U).toNat = (q + U).toNat by omega]

theorem Rep.mags {d : Datum} {n : Int} (h : Rep d n) : ∃ s m p, d = .number s m p ∧ (0 ≤ p + U → sg s (mags m p) = n * 2 ^ U) := by
  obtain ⟨s, m, p, h1, h2⟩ := h
  exact ⟨s, m, p, h1, fun hp => by rw [← mags_abs]; exact h2 U hp⟩

/-- A number held against a whole one. -/
theorem order_int {a b : Nat} {s : Bool} {m : Nat} {p n : Int} (ha : double.read a = .number s m p) (hb : IsI b n) (hn : n.natAbs < 2 ^ 53) :
    double.order a b = some (compare (sg s (mags m p)) (n * 2 ^ U)) := by
  obtain ⟨t, k, q, h1, h2⟩ := (hb.rep hn).mags
  rw [order_fin ha h1, h2 (read_place h1)]

theorem cut_zero (s : Bool) (n drop : Nat) : Toward.zero.cut s n drop = n / 2 ^ drop := by
  unfold Toward.cut
  simp only [Nat.shiftLeft_eq, Nat.one_mul, Bool.toNat_false, Nat.add_zero]
  rcases Nat.le_total drop (n.log2 + 2) with h | h
  · rw [Nat.min_eq_left h]
  · rw [Nat.min_eq_right h]
    have h1 : n < 2 ^ (n.log2 + 1) := Nat.lt_log2_self
    have h2 : 2 ^ (n.log2 + 1) ≤ 2 ^ (n.log2 + 2) := Nat.pow_le_pow_right (by omega) (by omega)
    have h3 : 2 ^ (n.log2 + 2) ≤ 2 ^ drop := Nat.pow_le_pow_right (by omega) h
    rw [Nat.div_eq_of_lt (by omega), Nat.div_eq_of_lt (by omega)]

/-- The whole part of a number's size. -/
theorem whole_part (s : Bool) (m : Nat) (p : Int) (hp : 0 ≤ p + U) : Toward.zero.cut s (m <<< p.toNat) (-p).toNat = mags m p / 2 ^ U := by
  rw [cut_zero, Nat.shiftLeft_eq]
  unfold mags
  rcases Int.le_total 0 p with h | h
  · rw [show (-p).toNat = 0 by omega, show (p + U).toNat = p.toNat + U by omega, Nat.pow_add, ← Nat.mul_assoc, Nat.mul_div_cancel _ (two_pow_pos U)]
    simp
  · have e : 2 ^ U = 2 ^ (-p).toNat * 2 ^ (p + U).toNat := by rw [← Nat.pow_add]; congr 1; omega
    rw [show p.toNat = 0 by omega, Nat.pow_zero, Nat.mul_one, e, Nat.mul_div_mul_right _ _ (two_pow_pos _)]

/-- Is it a whole number, not too great? -/
def wholeB (b : Nat) : Bool := match double.read b with
  | .number _ m p => decide (mags m p ≤ 1000000 * 2 ^ U ∧ mags m p / 2 ^ U * 2 ^ U = mags m p)
  | _ => false

theorem wholeB_num {b : Nat} {s : Bool} {m : Nat} {p : Int} (h : double.read b = .number s m p) : wholeB b = decide (mags m p ≤ 1000000 * 2 ^ U ∧ mags m p / 2 ^ U * 2 ^ U = mags m p) := by
  unfold wholeB; rw [h]

theorem sg_eq_iff (s : Bool) (m n : Nat) : sg s m = sg s n ↔ m = n := by cases s <;> simp [sg] <;> omega

theorem sg_natAbs (s : Bool) (m : Nat) : (sg s m).natAbs = m := by cases s <;> simp [sg]

theorem rep_sg (s : Bool) (t : Nat) : Rep (.number s t 0) (sg s t) := ⟨s, t, 0, rfl, fun K _ => by simp⟩

theorem wholeB_int {b : Nat} {n : Int} (h : IsI b n) (hn : n.natAbs < 2 ^ 53) : wholeB b = decide (n.natAbs ≤ 1000000) := by
  obtain ⟨s, m, p, h1, h2⟩ := (h.rep hn).mags
  have h3 := h2 (read_place h1)
  rw [wholeB_num h1]
  have e : mags m p = n.natAbs * 2 ^ U := by
    have := congrArg Int.natAbs h3
    rw [sg_natAbs, Int.natAbs_mul, Int.natAbs_pow, show (2 : Int).natAbs = 2 from rfl] at this
    exact this
  have hp := two_pow_pos U
  rw [e]
  generalize 2 ^ U = u at hp ⊢
  rw [Nat.mul_div_cancel _ hp]
  simp only [and_true, decide_eq_decide]
  exact ⟨fun h => Nat.le_of_mul_le_mul_right h hp, fun h => Nat.mul_le_mul_right _ h⟩

/-- The sign taken off. -/
theorem read_abs {b : Nat} {s : Bool} {m : Nat} {p : Int} (h : double.read b = .number s m p) : double.read (b % 2 ^ 63) = .number false m p := by
  unfold Format.read at h ⊢
  rw [double_signWeight] at *
  simp only at h ⊢
  have e1 : (b % 2 ^ 63 / 2 ^ 63 % 2 == 1) = false := by
    have : b % 2 ^ 63 / 2 ^ 63 = 0 := Nat.div_eq_of_lt (Nat.mod_lt _ (by decide))
    rw [this]; rfl
  rw [e1, Nat.mod_mod]
  split at h
  · rename_i hh
    rw [if_pos hh]
    rw [Datum.number.injEq] at h ⊢
    exact ⟨rfl, h.2⟩
  · rename_i hh
    rw [if_neg hh]
    split at h
    · rename_i hh2
      rw [if_pos hh2]
      rw [Datum.number.injEq] at h ⊢
      exact ⟨rfl, h.2⟩
    · split at h <;> cases h
theorem read_abs_inf {b : Nat} {s : Bool} (h : double.read b = .infinity s) : double.read (b % 2 ^ 63) = .infinity false := by
  unfold Format.read at h ⊢
  rw [double_signWeight] at *
  simp only at h ⊢
  have e1 : (b % 2 ^ 63 / 2 ^ 63 % 2 == 1) = false := by
    have : b % 2 ^ 63 / 2 ^ 63 = 0 := Nat.div_eq_of_lt (Nat.mod_lt _ (by decide))
    rw [this]; rfl
  rw [e1, Nat.mod_mod]
  split at h
  · cases h
  · rename_i hh
    rw [if_neg hh]
    split at h
    · cases h
    · rename_i hh2
      rw [if_neg hh2]
      split at h
      · rename_i hh3; rw [if_pos hh3]
      · cases h

/-- Exactly a half of an odd number (or of any not too great one): how it reads. -/
theorem nearest_half (neg : Bool) (m : Nat) (p : Int) (N : Nat) (h0 : 0 < N) (h : N < 2 ^ 53) (K : Nat) (hK : 0 ≤ p + K) (hv : m * 2 ^ (p + K).toNat * 2 = N * 2 ^ K) :
    double.read (double.nearest neg m p) = .number neg (N * 2 ^ (52 - N.log2)) ((N.log2 : Int) - 53) := by
  have hm : m ≠ 0 := by
    rintro rfl
    have := Nat.mul_pos h0 (two_pow_pos K)
    omega
  have hlog : (m.log2 : Int) + p + 1 = N.log2 := by
    have h1 : (m * 2 ^ ((p + K).toNat + 1)).log2 = m.log2 + ((p + K).toNat + 1) := log2_shift hm _
    have h2 : (N * 2 ^ K).log2 = N.log2 + K := log2_shift (by omega) _
    rw [Nat.pow_succ, ← Nat.mul_assoc, hv, h2] at h1
    omega
  have h3 := log2_le h0 h
  have ⟨g1, g2⟩ := shifted h0 h
  have hkept : Toward.even.cut neg (m <<< (p - ((N.log2 : Int) - 53)).toNat) (((N.log2 : Int) - 53) - p).toNat = N * 2 ^ (52 - N.log2) := by
    rw [Nat.shiftLeft_eq]
    rcases Int.le_total ((N.log2 : Int) - 53) p with hle | hle
    · have e0 : (((N.log2 : Int) - 53) - p).toNat = 0 := by omega
      rw [e0, cut_exact _ _ _ _ (by simp; omega) (Nat.mul_ne_zero hm (by have := two_pow_pos (p - ((N.log2 : Int) - 53)).toNat; omega))]
      simp only [Nat.pow_zero, Nat.div_one]
      have hp := two_pow_pos (K + N.log2)
      refine Nat.eq_of_mul_eq_mul_right hp ?_
      rw [Nat.mul_assoc, Nat.mul_assoc, ← Nat.pow_add, ← Nat.pow_add, show (p - ((N.log2 : Int) - 53)).toNat + (K + N.log2) = (p + K).toNat + 1 + 52 by omega, show 52 - N.log2 + (K + N.log2) = K + 52 by omega, Nat.pow_add, Nat.pow_add, Nat.pow_add, Nat.pow_one, ← Nat.mul_assoc, ← Nat.mul_assoc, ← Nat.mul_assoc, hv]
    · have e0 : (p - ((N.log2 : Int) - 53)).toNat = 0 := by omega
      have hm2 : m = N * 2 ^ (52 - N.log2) * 2 ^ (((N.log2 : Int) - 53) - p).toNat := by
        refine Nat.eq_of_mul_eq_mul_right (two_pow_pos ((p + K).toNat + 1)) ?_
        rw [Nat.pow_succ, ← Nat.mul_assoc, hv, ← Nat.pow_succ, Nat.mul_assoc, Nat.mul_assoc, ← Nat.pow_add, ← Nat.pow_add]
        congr 2
        omega
      rw [e0, Nat.pow_zero, Nat.mul_one, cut_exact _ _ _ _ (by rw [hm2]; exact Nat.mul_mod_left _ _) hm]
      conv => lhs; rw [hm2]
      exact Nat.mul_div_cancel _ (two_pow_pos _)
  have e : double.nearest neg m p = double.word neg ((N.log2 + 1021) * 2 ^ 52 + N * 2 ^ (52 - N.log2)) := by
    unfold Format.nearest
    rw [if_neg hm, double_lp, double_infRung, double_binade]
    have hlast : max (p + (m.log2 : Int) - (double.fractionBits : Nat)) (-1074) = (N.log2 : Int) - 53 := by
      show max (p + (m.log2 : Int) - (52 : Nat)) (-1074) = _
      omega
    rw [hlast]
    show double.word neg (min ((((N.log2 : Int) - 53) - (-1074)).toNat * 2 ^ 52 + Toward.even.cut neg (m <<< (p - ((N.log2 : Int) - 53)).toNat) (((N.log2 : Int) - 53) - p).toNat) (2047 * 2 ^ 52)) = _
    rw [hkept]
    have : (((N.log2 : Int) - 53) - (-1074)).toNat = N.log2 + 1021 := by omega
    rw [this, Nat.min_eq_left (by omega)]
  rw [e]
  obtain ⟨e1, e2⟩ := read_word neg (r := (N.log2 + 1021) * 2 ^ 52 + N * 2 ^ (52 - N.log2)) (by omega)
  unfold Format.read
  rw [e1, e2, double_binade, double_infRung, double_lp]
  simp only
  rw [if_neg (by omega), if_pos (by omega)]
  have hd : ((N.log2 + 1021) * 2 ^ 52 + N * 2 ^ (52 - N.log2)) / 2 ^ 52 = N.log2 + 1022 := by
    rw [Nat.mul_comm, Nat.mul_add_div (two_pow_pos 52)]
    have : N * 2 ^ (52 - N.log2) / 2 ^ 52 = 1 := by omega
    omega
  have hmod : ((N.log2 + 1021) * 2 ^ 52 + N * 2 ^ (52 - N.log2)) % 2 ^ 52 = N * 2 ^ (52 - N.log2) - 2 ^ 52 := by
    rw [Nat.mul_comm, Nat.mul_add_mod]
    omega
  rw [hd, hmod]
  have e3 : (neg.toNat == 1) = neg := by cases neg <;> rfl
  rw [e3, Datum.number.injEq]
  exact ⟨rfl, by omega, by omega⟩

/-- Half a unit more than a whole number is no whole number. -/
theorem half_not {b : Nat} {n : Int} (h : IsI b n) (hn : n.natAbs ≤ 1000000) : ∃ r, double.add b 4602678819172646912 = some r ∧ wholeB r = false := by
  obtain ⟨s, m, p, h1, h2⟩ := h.rep (by omega)
  have hh : double.read 4602678819172646912 = .number false (2 ^ 52) (-53) := by decide
  have hp := read_place h1
  refine ⟨_, by rw [Format.add, h1, hh]; rfl, ?_⟩
  generalize htot : signed s m (p - min p (-53)).toNat + signed false (2 ^ 52) (-53 - min p (-53)).toNat = total
  show wholeB (double.nearest (if total = 0 then s && false else decide (total < 0)) total.natAbs (min p (-53))) = false
  have hK : (0 : Int) ≤ min p (-53) + U := by unfold U at *; omega
  have hval : total * 2 ^ (min p (-53) + U).toNat * 2 = (2 * n + 1) * 2 ^ U := by
    have e1 := h2 U hp
    have e2 : (2 : Int) ^ (52 + (-53 - min p (-53)).toNat + (min p (-53) + U).toNat + 1) = 2 ^ U := by congr 1; unfold U at *; omega
    rw [← htot, signed_eq, signed_eq, Int.add_mul, Int.mul_assoc (sg s m), ← Int.pow_add, show (p - min p (-53)).toNat + (min p (-53) + U).toNat = (p + U).toNat by omega, e1]
    have e4 : sg false (2 ^ 52) = (2 : Int) ^ 52 := by decide
    rw [e4, ← Int.pow_add, ← Int.pow_add, Int.add_mul, ← Int.pow_succ, e2]
    generalize (2 : Int) ^ U = u
    grind
  have hne : total ≠ 0 := by
    rintro rfl
    simp only [Int.zero_mul] at hval
    have := Int.mul_ne_zero (show 2 * n + 1 ≠ 0 by omega) (show (2 : Int) ^ U ≠ 0 by have := pow_posI U; omega)
    omega
  have habs : total.natAbs * 2 ^ (min p (-53) + U).toNat * 2 = (2 * n + 1).natAbs * 2 ^ U := by
    have := congrArg Int.natAbs hval
    rw [Int.natAbs_mul, Int.natAbs_mul, Int.natAbs_pow, Int.natAbs_mul, Int.natAbs_pow, show (2 : Int).natAbs = 2 from rfl] at this
    exact this
  have hr := nearest_half (if total = 0 then s && false else decide (total < 0)) total.natAbs (min p (-53)) (2 * n + 1).natAbs (by omega) (by omega) U hK habs
  rw [wholeB_num hr]
  have h3 := log2_le (N := (2 * n + 1).natAbs) (by omega) (by omega)
  have hm2 : mags ((2 * n + 1).natAbs * 2 ^ (52 - (2 * n + 1).natAbs.log2)) (((2 * n + 1).natAbs.log2 : Int) - 53) = (2 * n + 1).natAbs * 2 ^ (U - 1) := by
    unfold mags
    rw [Nat.mul_assoc, ← Nat.pow_add]
    congr 2
    unfold U
    omega
  rw [hm2]
  have hU : 2 ^ U = 2 ^ (U - 1) * 2 := by
    have e : U = U - 1 + 1 := rfl
    generalize U - 1 = v at e
    rw [e, Nat.pow_succ]
  have hpos := two_pow_pos (U - 1)
  rw [hU]
  generalize 2 ^ (U - 1) = u at hpos ⊢
  simp only [decide_eq_false_iff_not, not_and]
  intro _ hc
  have e5 : (2 * n + 1).natAbs * u / (u * 2) = (2 * n + 1).natAbs / 2 := by rw [Nat.mul_comm _ u, Nat.mul_div_mul_left _ _ hpos]
  rw [e5, Nat.mul_comm u 2, ← Nat.mul_assoc] at hc
  have := Nat.eq_of_mul_eq_mul_right hpos hc
  omega

end Go.Proofs.Ytfnlimcgoeknjaa.Fl
