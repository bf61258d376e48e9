import Derived.Test.YtfnlimcgoeknjaaBackX
import Derived.Test.YtfnlimcgoeknjaaRoughW
namespace Go.Proofs.Ytfnlimcgoeknjaa
open Go.RowKit Go Fl

theorem Rd.take {w : World} {A : Option Addr} {l : List UInt8} (h : Rd w A (bys l)) (m : Nat) : Rd w A (bys (l.take m)) := by
  refine ⟨by have := h.1; rw [bys_length] at this ⊢; rw [List.length_take]; omega, fun j hj => ?_⟩
  rw [bys_length, List.length_take] at hj
  obtain ⟨a, e, hc⟩ := h.2 j (by rw [bys_length]; omega)
  refine ⟨a, e, ?_⟩
  rw [hc, bys_getD _ (by omega), bys_getD _ (by rw [List.length_take]; omega)]
  simp [List.getD_eq_getElem?_getD, show j < m by omega]
theorem unit_bd (l : Nat) : 10 ≤ unitN l ∧ unitN l ≤ 200 := by unfold unitN; omega
theorem nodes_bd (f u : Nat) (hu : u ≤ 200) : (mkNodes f u).length ≤ 9 ∧ ∀ x ∈ mkNodes f u, (-2147483648 ≤ x.1 ∧ x.1 < 2147483648) ∧ -2147483648 ≤ x.2 ∧ x.2 < 2147483648 := by
  unfold mkNodes
  split
  · refine ⟨by simp; omega, fun x hx => ?_⟩
    obtain ⟨i, hi, rfl⟩ := List.mem_map.1 hx
    have hi := List.mem_range.1 hi
    have : u * i ≤ 200 * 9 := Nat.mul_le_mul hu (by omega)
    dsimp only
    omega
  · split
    · refine ⟨by simp, fun x hx => ?_⟩
      simp only [List.mem_cons, List.not_mem_nil, or_false] at hx
      rcases hx with rfl | rfl | rfl | rfl <;> dsimp only <;> omega
    · split
      · refine ⟨by simp, fun x hx => ?_⟩
        simp only [List.mem_cons, List.not_mem_nil, or_false] at hx
        rcases hx with rfl | rfl | rfl | rfl | rfl | rfl | rfl | rfl <;> dsimp only <;> omega
      · refine ⟨by simp, fun x hx => ?_⟩
        simp only [List.mem_cons, List.not_mem_nil, or_false] at hx
        rcases hx with rfl | rfl | rfl | rfl | rfl | rfl | rfl <;> dsimp only <;> omega
theorem points_bd (f : Nat) : (mkPoints f).length ≤ 2 ∧ ∀ x ∈ mkPoints f, (0 ≤ x.1 ∧ x.1 < 256) ∧ (0 ≤ x.2.1 ∧ x.2.1 < 256) ∧ (0 ≤ x.2.2.1 ∧ x.2.2.1 < 256) ∧ 0 ≤ x.2.2.2 ∧ x.2.2.2 < 256 := by
  unfold mkPoints
  split
  · exact ⟨by decide, by decide⟩
  · split
    · exact ⟨by decide, by decide⟩
    · split
      · exact ⟨by decide, by decide⟩
      · exact ⟨by decide, by decide⟩
theorem secs_len (f u : Nat) : ∀ k, k ≤ (mkEnds f).length → (mkSecs f u k).length = k := fun k hk => by
  unfold mkSecs
  rw [List.length_mapIdx, List.length_take]; omega
theorem secs_bd (f u : Nat) (hu : u ≤ 200) : ∀ k, k ≤ (mkEnds f).length → ∀ x ∈ mkSecs f u k, (0 ≤ x.1 ∧ x.1 < 65536) ∧ (0 ≤ x.2.1 ∧ x.2.1 < 256) ∧ 0 ≤ x.2.2 ∧ x.2.2 < 256
  | 0, _ => by simp [mkSecs]
  | k + 1, hk => by
    intro x hx
    rw [mkSecs_succ f u k (by omega)] at hx
    rcases List.mem_append.1 hx with hx | hx
    · exact secs_bd f u hu k (by omega) x hx
    · simp at hx
      subst hx
      have hk' : k < (mkEnds f).length := by omega
      have hb := (mkEnds_le f).2 _ (List.getElem_mem hk')
      unfold mkSec
      rw [List.getD_eq_getElem?_getD, List.getElem?_eq_getElem hk']
      simp only [Option.getD_some]
      omega
theorem parts_bd (j : Nat) : ∀ k, ∀ x ∈ mkParts j k, ∀ v ∈ x, 0 ≤ v ∧ v < (k : Int)
  | 0, x, h => by simp [mkParts] at h
  | k + 1, x, h => by
    unfold mkParts at h
    split at h
    · rename_i hc
      have hne := mkParts_ne j k hc.1
      rw [← List.dropLast_concat_getLast hne, joinP_snoc] at h
      rcases List.mem_append.1 h with h | h
      · intro v hv
        have := parts_bd j k x (List.dropLast_subset _ h) v hv
        omega
      · simp at h
        subst h
        intro v hv
        rcases List.mem_append.1 hv with hv | hv
        · have := parts_bd j k _ (List.getLast_mem hne) v hv
          omega
        · simp at hv; subst hv; omega
    · rcases List.mem_append.1 h with h | h
      · intro v hv
        have := parts_bd j k x h v hv
        omega
      · simp at h; subst h
        intro v hv
        simp at hv; subst hv; omega
theorem goodL_mk {f l s m wt c st j : Nat} {R : BS} (hb : f < 256 ∧ l < 256 ∧ s < 256 ∧ m < 65536 ∧ wt < 65536 ∧ c < 256 ∧ st < 256 ∧ j < 256) (hs : small R = true) : GoodL (mkL f l s m wt c st j (roR R)) := by
  obtain ⟨u1, u2⟩ := unit_bd l
  obtain ⟨s10, s20⟩ := (small_iff R).1 hs
  have he := (mkEnds_le f).1
  have hp := mkParts_len j (mkEnds f).length
  have hn := nodes_bd f (unitN l) u2
  have hq := points_bd f
  refine ⟨⟨Nat.lt_of_le_of_lt hn.1 (by omega), hn.2⟩, ⟨?_, secs_bd f (unitN l) u2 _ (Nat.le_refl _)⟩, ⟨?_, fun x hx => ⟨?_, fun v hv => ?_⟩⟩, ⟨Nat.lt_of_le_of_lt hq.1 (by omega), hq.2⟩, ⟨?_, fun x hx => ?_⟩, ?_⟩
  · show (mkSecs f (unitN l) (mkEnds f).length).length < 256
    rw [secs_len _ _ _ (Nat.le_refl _)]; omega
  · show (mkParts j (mkEnds f).length).length < 256
    omega
  · have := mkParts_el j _ x hx
    omega
  · have := parts_bd j _ x hx v hv
    omega
  · show (roR R).length < 256
    unfold roR; rw [List.length_map]; omega
  · obtain ⟨y, hy, rfl⟩ := List.mem_map.1 hx
    refine ⟨by unfold u8i; rw [List.length_map]; have := s10 y hy; omega, fun v hv => ?_⟩
    unfold u8i at hv
    obtain ⟨b, _, rfl⟩ := List.mem_map.1 hv
    have := UInt8.toNat_lt b
    omega
  · show (0 ≤ ((1 + s % (2 * unitN l) : Nat) : Int) ∧ ((1 + s % (2 * unitN l) : Nat) : Int) < 65536) ∧ (0 ≤ ((1 + m % 1000 : Nat) : Int) ∧ ((1 + m % 1000 : Nat) : Int) < 65536) ∧ (0 ≤ ((1 + wt % 1000 : Nat) : Int) ∧ ((1 + wt % 1000 : Nat) : Int) < 65536) ∧ (0 ≤ ((1 + c : Nat) : Int) ∧ ((1 + c : Nat) : Int) < 65536) ∧ 0 ≤ ((st % 4 : Nat) : Int) ∧ ((st % 4 : Nat) : Int) < 65536
    have : s % (2 * unitN l) ≤ s := Nat.mod_le _ _
    omega
theorem flat_bd {α : Type} (E : α → List Bool) (c : Nat) : ∀ (l : List α), (∀ x ∈ l, (E x).length ≤ c) → (l.flatMap E).length ≤ l.length * c
  | [], _ => by simp
  | x :: l, h => by
    rw [List.flatMap_cons, List.length_append, List.length_cons, Nat.succ_mul]
    have h1 := h x (by simp)
    have h2 := flat_bd E c l fun y hy => h y (by simp [hy])
    omega
theorem lay_bd {α : Type} (E : α → List Bool) (c : Nat) (l : List α) (h : ∀ x ∈ l, (E x).length ≤ c) : (layB E l).length ≤ 8 + l.length * c := by
  unfold layB
  rw [List.length_append, putBits_length]
  have := flat_bd E c l h
  omega
theorem bits_mk {f l s m wt c st j : Nat} {R : BS} (hs : small R = true) : (layBits (mkL f l s m wt c st j (roR R))).length ≤ 8000 := by
  obtain ⟨u1, u2⟩ := unit_bd l
  obtain ⟨s10, s20⟩ := (small_iff R).1 hs
  have he := (mkEnds_le f).1
  have hp := mkParts_len j (mkEnds f).length
  have hn := nodes_bd f (unitN l) u2
  have hq := points_bd f
  have h1 := lay_bd noE 64 (mkNodes f (unitN l)) (fun x _ => by unfold noE; rw [numB_length]; simp)
  have h2 := lay_bd seE 32 (mkSecs f (unitN l) (mkEnds f).length) (fun x _ => by unfold seE; rw [List.length_append, numB_length, numB_length]; simp)
  have h3 := lay_bd roE 72 (mkParts j (mkEnds f).length) (fun x hx => by
    have h := lay_bd inE 8 x (fun v _ => by unfold inE; rw [numB_length]; simp)
    have := mkParts_el j _ x hx
    unfold roE
    omega)
  have h4 := lay_bd poE 32 (mkPoints f) (fun x _ => by unfold poE; rw [numB_length]; simp)
  have h5 := lay_bd roE 88 (roR R) (fun x hx => by
    have h := lay_bd inE 8 x (fun v _ => by unfold inE; rw [numB_length]; simp)
    obtain ⟨y, hy, rfl⟩ := List.mem_map.1 hx
    have h7 : (u8i y.2.2).length ≤ 10 := by unfold u8i; rw [List.length_map]; exact s10 y hy
    unfold roE
    omega)
  rw [secs_len _ _ _ (Nat.le_refl _)] at h2
  have h6 : (roR R).length ≤ 20 := by unfold roR; rw [List.length_map]; exact s20
  rw [layBits_rest, List.length_append]
  unfold restBits
  simp only [List.length_append, numB_length, putBits_length]
  show 8 + 8 + ((layB noE (mkNodes f (unitN l))).length + (layB seE (mkSecs f (unitN l) (mkEnds f).length)).length + (layB roE (mkParts j (mkEnds f).length)).length + (layB poE (mkPoints f)).length + (layB roE (roR R)).length + 5 * 16) ≤ 8000
  omega
theorem GoodL.sized {L : Lay} (h : GoodL L) : Sized L := fun x hx => by
  have := h.no.2 x hx
  omega
end Go.Proofs.Ytfnlimcgoeknjaa
