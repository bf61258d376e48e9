import Derived.Test.YtmfdehbbkeplaaaFl
namespace Go.Proofs.Ytmfdehbbkeplaaa.Fl
open Go Ieee

/-- The least place, as a number. -/
def U : Nat := 1074
/-- A number's size in the least units. -/
def mags (m : Nat) (p : Int) : Nat := m * 2 ^ (p + U).toNat

theorem mags_abs (s : Bool) (m : Nat) (p : Int) : sg s m * 2 ^ (p + U).toNat = sg s (mags m p) := by
  unfold mags; rw [sg_shift]

theorem read_place {b : Nat} {s : Bool} {m : Nat} {p : Int} (h : double.read b = .number s m p) : 0 ≤ p + U := by
  unfold Format.read at h
  rw [double_lp] at h
  simp only at h
  split at h
  · rw [Datum.number.injEq] at h; unfold U; omega
  · split at h
    · rw [Datum.number.injEq] at h; unfold U; omega
    · split at h <;> cases h

/-- Two numbers are held against each other by their sizes in the least units. -/
theorem order_fin {a b : Nat} {s t : Bool} {m n : Nat} {p q : Int} (ha : double.read a = .number s m p) (hb : double.read b = .number t n q) :
    double.order a b = some (compare (sg s (mags m p)) (sg t (mags n q))) := by
  have h1 := read_place ha
  have h2 := read_place hb
  rw [Format.order, ha, hb]
  show some (compare (signed s m (p - min p q).toNat) (signed t n (q - min p q).toNat)) = _
  rw [signed_eq, signed_eq, ← compare_mul _ _ (min p q + U).toNat, Int.mul_assoc, Int.mul_assoc, ← Int.pow_add, ← Int.pow_add, ← mags_abs, ← mags_abs]
  rw [show (p - min p q).toNat + (min p q + U).toNat = (p + U).toNat by omega, show (q - min p q).toNat + (min p q + U).toNat = (q + U).toNat by omega]

theorem Rep.mags {d : Datum} {n : Int} (h : Rep d n) : ∃ s m p, d = .number s m p ∧ (0 ≤ p + U → sg s (mags m p) = n * 2 ^ U) := by
  obtain ⟨s, m, p, h1, h2⟩ := h
  exact ⟨s, m, p, h1, fun hp => by rw [← mags_abs]; exact h2 U hp⟩

/-- A number held against a whole one. -/
theorem order_int {a b : Nat} {s : Bool} {m : Nat} {p n : Int} (ha : double.read a = .number s m p) (hb : IsI b n) (hn : n.natAbs < 2 ^ 53) :
    double.order a b = some (compare (sg s (mags m p)) (n * 2 ^ U)) := by
  obtain ⟨t, k, q, h1, h2⟩ := (hb.rep hn).mags
  rw [order_fin ha h1, h2 (read_place h1)]

theorem cut_zero (s : Bool) (n drop : Nat) : Toward.zero.cut s n drop = n / 2 ^ drop := by
  unfold Toward.cut
  simp only [Nat.shiftLeft_eq, Nat.one_mul, Bool.toNat_false, Nat.add_zero]
  rcases Nat.le_total drop (n.log2 + 2) with h | h
  · rw [Nat.min_eq_left h]
  · rw [Nat.min_eq_right h]
    have h1 : n < 2 ^ (n.log2 + 1) := Nat.lt_log2_self
    have h2 : 2 ^ (n.log2 + 1) ≤ 2 ^ (n.log2 + 2) := Nat.pow_le_pow_right (by omega) (by omega)
    have h3 : 2 ^ (n.log2 + 2) ≤ 2 ^ drop := Nat.pow_le_pow_right (by omega) h
    rw [Nat.div_eq_of_lt (by omega), Nat.div_eq_of_lt (by omega)]

/-- The whole part of a number's size. -/
theorem whole_part (s : Bool) (m : Nat) (p : Int) (hp : 0 ≤ p + U) : Toward.zero.cut s (m <<< p.toNat) (-p).toNat = mags m p / 2 ^ U := by
  rw [cut_zero, Nat.shiftLeft_eq]
  unfold mags
  rcases Int.le_total 0 p with h | h
  · rw [show (-p).toNat = 0 by omega, show (p + U).toNat = p.toNat + U by omega, Nat.pow_add, ← Nat.mul_assoc, Nat.mul_div_cancel _ (two_pow_pos U)]
    simp
  · have e : 2 ^ U = 2 ^ (-p).toNat * 2 ^ (p + U).toNat := by rw [← Nat.pow_add]; congr 1; omega
    rw [show p.toNat = 0 by omega, Nat.pow_zero, Nat.mul_one, e, Nat.mul_div_mul_right _ _ (two_pow_pos _)]

/-- Is it a whole number, not too great? -/
def wholeB (b : Nat) : Bool := match double.read b with
  | .number _ m p => decide (mags m p ≤ 1000000 * 2 ^ U ∧ mags m p / 2 ^ U * 2 ^ U = mags m p)
  | _ => false

theorem wholeB_num {b : Nat} {s : Bool} {m : Nat} {p : Int} (h : double.read b = .number s m p) : wholeB b = decide (mags m p ≤ 1000000 * 2 ^ U ∧ mags m p / 2 ^ U * 2 ^ U = mags m p) := by
  unfold wholeB; rw [h]

theorem sg_eq_iff (s : Bool) (m n : Nat) : sg s m = sg s n ↔ m = n := by cases s <;> simp [sg] <;> omega

theorem sg_natAbs (s : Bool) (m : Nat) : (sg s m).natAbs = m := by cases s <;> simp [sg]

theorem rep_sg (s : Bool) (t : Nat) : Rep (.number s t 0) (sg s t) := ⟨s, t, 0, rfl, fun K _ => by simp⟩

theorem wholeB_int {b : Nat} {n : Int} (h : IsI b n) (hn : n.natAbs < 2 ^ 53) : wholeB b = decide (n.natAbs ≤ 1000000) := by
  obtain ⟨s, m, p, h1, h2⟩ := (h.rep hn).mags
  have h3 := h2 (read_place h1)
  rw [wholeB_num h1]
  have e : mags m p = n.natAbs * 2 ^ U := by
    have := congrArg Int.natAbs h3
    rw [sg_natAbs, Int.natAbs_mul, Int.natAbs_pow, show (2 : Int).natAbs = 2 from rfl] at this
    exact this
  have hp := two_pow_pos U
  rw [e]
  generalize 2 ^ U = u at hp ⊢
  rw [Nat.mul_div_cancel _ hp]
  simp only [and_true, decide_eq_decide]
  exact ⟨fun h => Nat.le_of_mul_le_mul_right h hp, fun h => Nat.mul_le_mul_right _ h⟩

/-- The sign taken off. -/
theorem read_abs {b : Nat} {s : Bool} {m : Nat} {p : Int} (h : double.read b = .number s m p) : double.read (b % 2 ^ 63) = .number false m p := by
  unfold Format.read at h ⊢
  rw [double_signWeight] at *
  simp only at h ⊢
  have e1 : (b % 2 ^ 63 / 2 ^ 63 % 2 == 1) = false := by
    have : b % 2 ^ 63 / 2 ^ 63 = 0 := Nat.div_eq_of_lt (Nat.mod_lt _ (by decide))
    rw [this]; rfl
  rw [e1, Nat.mod_mod]
  split at h
  · rename_i hh
    rw [if_pos hh]
    rw [Datum.number.injEq] at h ⊢
    exact ⟨rfl, h.2⟩
  · rename_i hh
    rw [if_neg hh]
    split at h
    · rename_i hh2
      rw [if_pos hh2]
      rw [Datum.number.injEq] at h ⊢
      exact ⟨rfl, h.2⟩
    · split at h <;> cases h
theorem read_abs_inf {b : Nat} {s : Bool} (h : double.read b = .infinity s) : double.read (b % 2 ^ 63) = .infinity false := by
  unfold Format.read at h ⊢
  rw [double_signWeight] at *
  simp only at h ⊢
  have e1 : (b % 2 ^ 63 / 2 ^ 63 % 2 == 1) = false := by
    have : b % 2 ^ 63 / 2 ^ 63 = 0 := Nat.div_eq_of_lt (Nat.mod_lt _ (by decide))
    rw [this]; rfl
  rw [e1, Nat.mod_mod]
  split at h
  · cases h
  · rename_i hh
    rw [if_neg hh]
    split at h
    · cases h
    · rename_i hh2
      rw [if_neg hh2]
      split at h
      · rename_i hh3; rw [if_pos hh3]
      · cases h

/-- Exactly a half of an odd number (or of any not too great one): how it reads. -/
theorem nearest_half (neg : Bool) (m : Nat) (p : Int) (N : Nat) (h0 : 0 < N) (h : N < 2 ^ 53) (K : Nat) (hK : 0 ≤ p + K) (hv : m * 2 ^ (p + K).toNat * 2 = N * 2 ^ K) :
    double.read (double.nearest neg m p) = .number neg (N * 2 ^ (52 - N.log2)) ((N.log2 : Int) - 53) := by
  have hm : m ≠ 0 := by
    rintro rfl
    have := Nat.mul_pos h0 (two_pow_pos K)
    omega
  have hlog : (m.log2 : Int) + p + 1 = N.log2 := by
    have h1 : (m * 2 ^ ((p + K).toNat + 1)).log2 = m.log2 + ((p + K).toNat + 1) := log2_shift hm _
    have h2 : (N * 2 ^ K).log2 = N.log2 + K := log2_shift (by omega) _
    rw [Nat.pow_succ, ← Nat.mul_assoc, hv, h2] at h1
    omega
  have h3 := log2_le h0 h
  have ⟨g1, g2⟩ := shifted h0 h
  have hkept : Toward.even.cut neg (m <<< (p - ((N.log2 : Int) - 53)).toNat) (((N.log2 : Int) - 53) - p).toNat = N * 2 ^ (52 - N.log2) := by
    rw [Nat.shiftLeft_eq]
    rcases Int.le_total ((N.log2 : Int) - 53) p with hle | hle
    · have e0 : (((N.log2 : Int) - 53) - p).toNat = 0 := by omega
      rw [e0, cut_exact _ _ _ _ (by simp; omega) (Nat.mul_ne_zero hm (by have := two_pow_pos (p - ((N.log2 : Int) - 53)).toNat; omega))]
      simp only [Nat.pow_zero, Nat.div_one]
      have hp := two_pow_pos (K + N.log2)
      refine Nat.eq_of_mul_eq_mul_right hp ?_
      rw [Nat.mul_assoc, Nat.mul_assoc, ← Nat.pow_add, ← Nat.pow_add, show (p - ((N.log2 : Int) - 53)).toNat + (K + N.log2) = (p + K).toNat + 1 + 52 by omega, show 52 - N.log2 + (K + N.log2) = K + 52 by omega, Nat.pow_add, Nat.pow_add, Nat.pow_add, Nat.pow_one, ← Nat.mul_assoc, ← Nat.mul_assoc, ← Nat.mul_assoc, hv]
    · have e0 : (p - ((N.log2 : Int) - 53)).toNat = 0 := by omega
      have hm2 : m = N * 2 ^ (52 - N.log2) * 2 ^ (((N.log2 : Int) - 53) - p).toNat := by
        refine Nat.eq_of_mul_eq_mul_right (two_pow_pos ((p + K).toNat + 1)) ?_
        rw [Nat.pow_succ, ← Nat.mul_assoc, hv, ← Nat.pow_succ, Nat.mul_assoc, Nat.mul_assoc, ← Nat.pow_add, ← Nat.pow_add]
        congr 2
        omega
      rw [e0, Nat.pow_zero, Nat.mul_one, cut_exact _ _ _ _ (by rw [hm2]; exact Nat.mul_mod_left _ _) hm]
      conv => lhs; rw [hm2]
      exact Nat.mul_div_cancel _ (two_pow_pos _)
  have e : double.nearest neg m p = double.word neg ((N.log2 + 1021) * 2 ^ 52 + N * 2 ^ (52 - N.log2)) := by
    unfold Format.nearest
    rw [if_neg hm, double_lp, double_infRung, double_binade]
    have hlast : max (p + (m.log2 : Int) - (double.fractionBits : Nat)) (-1074) = (N.log2 : Int) - 53 := by
      show max (p + (m.log2 : Int) - (52 : Nat)) (-1074) = _
      omega
    rw [hlast]
    show double.word neg (min ((((N.log2 : Int) - 53) - (-1074)).toNat * 2 ^ 52 + Toward.even.cut neg (m <<< (p - ((N.log2 : Int) - 53)).toNat) (((N.log2 : Int) - 53) - p).toNat) (2047 * 2 ^ 52)) = _
    rw [hkept]
    have : (((N.log2 : Int) - 53) - (-1074)).toNat = N.log2 + 1021 := by omega
    rw [this, Nat.min_eq_left (by omega)]
  rw [e]
  obtain ⟨e1, e2⟩ := read_word neg (r := (N.log2 + 1021) * 2 ^ 52 + N * 2 ^ (52 - N.log2)) (by omega)
  unfold Format.read
  rw [e1, e2, double_binade, double_infRung, double_lp]
  simp only
  rw [if_neg (by omega), if_pos (by omega)]
  have hd : ((N.log2 + 1021) * 2 ^ 52 + N * 2 ^ (52 - N.log2)) / 2 ^ 52 = N.log2 + 1022 := by
    rw [Nat.mul_comm, Nat.mul_add_div (two_pow_pos 52)]
    have : N * 2 ^ (52 - N.log2) / 2 ^ 52 = 1 := by omega
    omega
  have hmod : ((N.log2 + 1021) * 2 ^ 52 + N * 2 ^ (52 - N.log2)) % 2 ^ 52 = N * 2 ^ (52 - N.log2) - 2 ^ 52 := by
    rw [Nat.mul_comm, Nat.mul_add_mod]
    omega
  rw [hd, hmod]
  have e3 : (neg.toNat == 1) = neg := by cases neg <;> rfl
  rw [e3, Datum.number.injEq]
  exact ⟨rfl, by omega, by omega⟩

/-- Half a unit more than a whole number is no whole number. -/
theorem half_not {b : Nat} {n : Int} (h : IsI b n) (hn : n.natAbs ≤ 1000000) : ∃ r, double.add b 4602678819172646912 = some r ∧ wholeB r = false := by
  obtain ⟨s, m, p, h1, h2⟩ := h.rep (by omega)
  have hh : double.read 4602678819172646912 = .number false (2 ^ 52) (-53) := by decide
  have hp := read_place h1
  refine ⟨_, by rw [Format.add, h1, hh]; rfl, ?_⟩
  generalize htot : signed s m (p - min p (-53)).toNat + signed false (2 ^ 52) (-53 - min p (-53)).toNat = total
  show wholeB (double.nearest (if total = 0 then s && false else decide (total < 0)) total.natAbs (min p (-53))) = false
  have hK : (0 : Int) ≤ min p (-53) + U := by unfold U at *; omega
  have hval : total * 2 ^ (min p (-53) + U).toNat * 2 = (2 * n + 1) * 2 ^ U := by
    have e1 := h2 U hp
    have e2 : (2 : Int) ^ (52 + (-53 - min p (-53)).toNat + (min p (-53) + U).toNat + 1) = 2 ^ U := by congr 1; unfold U at *; omega
    rw [← htot, signed_eq, signed_eq, Int.add_mul, Int.mul_assoc (sg s m), ← Int.pow_add, show (p - min p (-53)).toNat + (min p (-53) + U).toNat = (p + U).toNat by omega, e1]
    have e4 : sg false (2 ^ 52) = (2 : Int) ^ 52 := by decide
    rw [e4, ← Int.pow_add, ← Int.pow_add, Int.add_mul, ← Int.pow_succ, e2]
    generalize (2 : Int) ^ U = u
    grind
  have hne : total ≠ 0 := by
    rintro rfl
    simp only [Int.zero_mul] at hval
    have := Int.mul_ne_zero (show 2 * n + 1 ≠ 0 by omega) (show (2 : Int) ^ U ≠ 0 by have := pow_posI U; omega)
    omega
  have habs : total.natAbs * 2 ^ (min p (-53) + U).toNat * 2 = (2 * n + 1).natAbs * 2 ^ U := by
    have := congrArg Int.natAbs hval
    rw [Int.natAbs_mul, Int.natAbs_mul, Int.natAbs_pow, Int.natAbs_mul, Int.natAbs_pow, show (2 : Int).natAbs = 2 from rfl] at this
    exact this
  have hr := nearest_half (if total = 0 then s && false else decide (total < 0)) total.natAbs (min p (-53)) (2 * n + 1).natAbs (by omega) (by omega) U hK habs
  rw [wholeB_num hr]
  have h3 := log2_le (N := (2 * n + 1).natAbs) (by omega) (by omega)
  have hm2 : mags ((2 * n + 1).natAbs * 2 ^ (52 - (2 * n + 1).natAbs.log2)) (((2 * n + 1).natAbs.log2 : Int) - 53) = (2 * n + 1).natAbs * 2 ^ (U - 1) := by
    unfold mags
    rw [Nat.mul_assoc, ← Nat.pow_add]
    congr 2
    unfold U
    omega
  rw [hm2]
  have hU : 2 ^ U = 2 ^ (U - 1) * 2 := by
    have e : U = U - 1 + 1 := rfl
    generalize U - 1 = v at e
    rw [e, Nat.pow_succ]
  have hpos := two_pow_pos (U - 1)
  rw [hU]
  generalize 2 ^ (U - 1) = u at hpos ⊢
  simp only [decide_eq_false_iff_not, not_and]
  intro _ hc
  have e5 : (2 * n + 1).natAbs * u / (u * 2) = (2 * n + 1).natAbs / 2 := by rw [Nat.mul_comm _ u, Nat.mul_div_mul_left _ _ hpos]
  rw [e5, Nat.mul_comm u 2, ← Nat.mul_assoc] at hc
  have := Nat.eq_of_mul_eq_mul_right hpos hc
  omega

end Go.Proofs.Ytmfdehbbkeplaaa.Fl
