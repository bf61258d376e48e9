import Derived.Test.YtpbkbkbifidbpaaNil
import Derived.Test.YtpbkbkbifidbpaaJoin
import Derived.Test.YtpbkbkbifidbpaaOpn
import Derived.Deep.DeepCutAuto
namespace Go.Proofs.Ytpbkbkbifidbpaa
open Go.RowKit Go

/-- How many noughts stand at the end of the first i. -/
def tz (l : List UInt8) : Nat → Nat
  | 0 => 0
  | i + 1 => if l.getD i 0 = 0 then tz l i + 1 else 0
theorem back_tz (l : List UInt8) : ∀ i n, n ≤ 1001 → back l i n = min (n + tz l i) 1001
  | 0, n, h => by simp [back, tz]; omega
  | i + 1, n, h => by
    simp only [back, tz]
    by_cases h0 : l.getD i 0 = 0
    · by_cases h1 : n < 1001
      · rw [if_pos ⟨h0, h1⟩, if_pos h0, back_tz l i (n + 1) (by omega)]
        omega
      · rw [if_neg (by omega), if_pos h0]
        omega
    · rw [if_neg (fun h => h0 h.1), if_neg h0]
      omega
theorem tz_append (l m : List UInt8) : ∀ i, i ≤ l.length → tz (l ++ m) i = tz l i
  | 0, _ => rfl
  | i + 1, h => by
    simp only [tz]
    rw [tz_append l m i (by omega)]
    have : (l ++ m).getD i 0 = l.getD i 0 := by
      rw [List.getD_eq_getElem?_getD, List.getD_eq_getElem?_getD, List.getElem?_append_left (by omega)]
    rw [this]
/-- The count of a history. -/
def hc (l : List UInt8) : Nat := back l l.length 0
theorem hc_le (l : List UInt8) : hc l ≤ 1001 := by unfold hc; rw [back_tz _ _ _ (by omega)]; omega
theorem hc_snoc (l : List UInt8) (b : UInt8) : (hc (l ++ [b]) : Int) = one b (hc l) := by
  unfold hc one
  rw [back_tz _ _ _ (by omega), back_tz _ _ _ (by omega), List.length_append]
  show ((min (0 + tz (l ++ [b]) (l.length + 1)) 1001 : Nat) : Int) = _
  simp only [tz]
  rw [tz_append l [b] l.length (Nat.le_refl _)]
  have : (l ++ [b]).getD l.length 0 = b := by simp [List.getD_eq_getElem?_getD]
  rw [this]
  split <;> omega
/-- What is taken of a part's detector. -/
def bt (r : List UInt8) (j : Nat) : UInt8 := r.getD j 9
theorem nxt_bt (r : List UInt8) (j : Nat) (c : Int) : nxt r j c = one (bt r j) c := by
  unfold nxt one bt
  rw [List.getD_eq_getElem?_getD]
  cases h : r[j]? with
  | none => simp
  | some b => simp

/-- The histories, the first k of which have grown. -/
def ext (r : List UInt8) (hs : List (List UInt8)) (k : Nat) : List (List UInt8) := (List.range hs.length).map fun j => if j < k then hs.getD j [] ++ [bt r j] else hs.getD j []
theorem ext_length (r : List UInt8) (hs : List (List UInt8)) (k : Nat) : (ext r hs k).length = hs.length := by simp [ext]
theorem ext_get (r : List UInt8) (hs : List (List UInt8)) (k j : Nat) (h : j < hs.length) : (ext r hs k).getD j [] = if j < k then hs.getD j [] ++ [bt r j] else hs.getD j [] := by
  simp [ext, List.getD_eq_getElem?_getD, h]
theorem ext_zero (r : List UInt8) (hs : List (List UInt8)) : ext r hs 0 = hs := by
  apply List.ext_getElem
  · simp [ext]
  · intro i h1 h2
    simp [ext, List.getD_eq_getElem?_getD, List.getElem?_eq_getElem h2]
theorem ext_set (r : List UInt8) (hs : List (List UInt8)) (k : Nat) (hk : k < hs.length) : (ext r hs k).set k ((ext r hs k).getD k [] ++ [bt r k]) = ext r hs (k + 1) := by
  rw [ext_get _ _ _ _ hk, if_neg (by omega)]
  apply List.ext_getElem
  · simp [ext]
  · intro i h1 h2
    have hi : i < hs.length := by simpa [ext] using h2
    rw [List.getElem_set]
    by_cases hki : k = i
    · subst hki
      simp [ext]
    · simp only [ext, List.getElem_map, List.getElem_range, hki, if_false]
      by_cases h3 : i < k
      · rw [if_pos h3, if_pos (by omega)]
      · rw [if_neg h3, if_neg (by omega)]

/-- The histories in memory: a row at block pb, each one in a row of its own. -/
structure Past (B wr : World) (g q pb : Nat) (vs : List Value) (hs : List (List UInt8)) : Prop where
  blk : wr.heap[pb]? = some (.cells vs.toArray 28 (0, 0))
  len : vs.length = hs.length
  own : ∀ k, k < hs.length → Own wr 5 (vs.getD k undef) (bys (hs.getD k []))
  new : ∀ k b, k < hs.length → (vs.getD k undef).ownBlock = some b → B.heap.size ≤ b ∧ b ≠ pb ∧ b ≠ g ∧ b ≠ q
  apart : ∀ j k b, j < hs.length → k < hs.length → j ≠ k → (vs.getD j undef).ownBlock = some b → (vs.getD k undef).ownBlock ≠ some b
  pbn : B.heap.size ≤ pb ∧ pb ≠ g ∧ pb ≠ q

theorem Past.fr {B wr w1 : World} {g q pb : Nat} {vs : List Value} {hs : List (List UInt8)} {S : Nat → Prop} (h : Past B wr g q pb vs hs) (hf : Fr S wr w1) (hpb : ¬ S pb) (hS : ∀ k b, k < hs.length → (vs.getD k undef).ownBlock = some b → ¬ S b) : Past B w1 g q pb vs hs :=
  ⟨hf.heap h.blk hpb, h.len, fun k hk => (h.own k hk).fr hf (fun b hb => hS k b hk hb), h.new, h.apart, h.pbn⟩
theorem Past.cell {B wr : World} {g q pb : Nat} {vs : List Value} {hs : List (List UInt8)} (h : Past B wr g q pb vs hs) {k : Nat} (hk : k < hs.length) : wr.cell? ⟨pb, k, none⟩ = some (vs.getD k undef) ∧ wr.frozen? ⟨pb, k, none⟩ = false := by
  refine ⟨?_, blk_free h.blk k⟩
  rw [blk_cell h.blk]
  have : k < vs.length := by rw [h.len]; exact hk
  simp [List.getD_eq_getElem?_getD, List.getElem?_eq_getElem this]

/-- One history grows by one. -/
theorem Past.push {B wr w1 : World} {g q pb : Nat} {vs : List Value} {hs : List (List UInt8)} (h : Past B wr g q pb vs hs) {k : Nat} (hk : k < hs.length) {v1 : Value} {h1 : List UInt8} (hB : B.heap.size ≤ wr.heap.size) (hg : g < wr.heap.size) (hq : q < wr.heap.size)
    (ho : Own w1 5 v1 (bys h1)) (hf : Fr (fun b => (vs.getD k undef).ownBlock = some b) wr w1) (hat : v1.ownBlock = (vs.getD k undef).ownBlock ∨ ∃ b, v1.ownBlock = some b ∧ wr.heap.size ≤ b) :
    Past B (w1.setCell ⟨pb, k, none⟩ v1) g q pb (vs.set k v1) (hs.set k h1) := by
  have hpl := blk_lt h.blk
  have hpb1 : w1.heap[pb]? = some (.cells vs.toArray 28 (0, 0)) := hf.heap h.blk (fun e => (h.new k pb hk e).2.1 rfl)
  have hvl : k < vs.length := by rw [h.len]; exact hk
  have get : ∀ j, (vs.set k v1).getD j undef = if j = k then v1 else vs.getD j undef := by
    intro j
    rw [List.getD_eq_getElem?_getD, List.getElem?_set]
    by_cases e : k = j
    · subst e; simp [hvl]
    · rw [if_neg e, if_neg (Ne.symm e), List.getD_eq_getElem?_getD]
  have geth : ∀ j, (hs.set k h1).getD j [] = if j = k then h1 else hs.getD j [] := by
    intro j
    rw [List.getD_eq_getElem?_getD, List.getElem?_set]
    by_cases e : k = j
    · subst e; simp [hk]
    · rw [if_neg e, if_neg (Ne.symm e), List.getD_eq_getElem?_getD]
  have vnew : ∀ b, v1.ownBlock = some b → B.heap.size ≤ b ∧ b ≠ pb ∧ b ≠ g ∧ b ≠ q := by
    intro b hb
    rcases hat with e | ⟨b', e, hle⟩
    · exact h.new k b hk (e ▸ hb)
    · rw [e] at hb; cases hb
      omega
  have jlt : ∀ j b, j < hs.length → (vs.getD j undef).ownBlock = some b → b < wr.heap.size := fun j b hj hb => (h.own j hj).lt hb
  have fs : Fr (fun i => i = pb) w1 (w1.setCell ⟨pb, k, none⟩ v1) := (Fr.refl (fun i => i = pb) w1).setCell (p := ⟨pb, k, none⟩) (.inl rfl) _
  refine ⟨?_, by simp [h.len], ?_, ?_, ?_, h.pbn⟩
  · rw [blk_set hpb1]; simp
  · intro j hj
    rw [List.length_set] at hj
    rw [get, geth]
    by_cases e : j = k
    · rw [if_pos e, if_pos e]
      exact ho.fr fs (fun b hb e => (vnew b hb).2.1 e)
    · rw [if_neg e, if_neg e]
      refine ((h.own j hj).fr hf (fun b hb hb2 => h.apart j k b hj hk e hb hb2)).fr fs (fun b hb e2 => (h.new j b hj hb).2.1 e2)
  · intro j b hj hb
    rw [List.length_set] at hj
    rw [get] at hb
    by_cases e : j = k
    · rw [if_pos e] at hb; exact vnew b hb
    · rw [if_neg e] at hb; exact h.new j b hj hb
  · intro i j b hi hj hij hb hb2
    rw [List.length_set] at hi hj
    rw [get] at hb hb2
    by_cases e1 : i = k
    · have e2 : j ≠ k := fun e => hij (e1.trans e.symm)
      rw [if_pos e1] at hb
      rw [if_neg e2] at hb2
      rcases hat with e | ⟨b', e, hle⟩
      · exact h.apart j k b hj hk e2 hb2 (e ▸ hb)
      · rw [e] at hb; cases hb
        have := jlt j _ hj hb2
        omega
    · rw [if_neg e1] at hb
      by_cases e2 : j = k
      · rw [if_pos e2] at hb2
        rcases hat with e | ⟨b', e, hle⟩
        · exact h.apart i k b hi hk e1 hb (e ▸ hb2)
        · rw [e] at hb2; cases hb2
          have := jlt i _ hi hb
          omega
      · rw [if_neg e2] at hb2
        exact h.apart i j b hi hj hij hb hb2
theorem Past.drewN {B wr : World} {g q pb : Nat} {vs : List Value} {hs : List (List UInt8)} (h : Past B wr g q pb vs hs) (n : Nat) : Past B (wr.drewN n) g q pb vs hs := ⟨h.blk, h.len, h.own, h.new, h.apart, h.pbn⟩

theorem infoSl : (Try.prog.info? 28).map (fun i => (i.zero, i.size, i.bytes)) = some (some (.slice none 0 0), 1, 24) := by kernel_rfl
theorem made_sl (m : Nat) : madeCells #[.slice none 0 0] m = (List.replicate m (Value.slice none 0 0)).toArray := by
  apply Array.ext
  · simp [madeCells]
  · intro i h1 h2
    simp [madeCells, Nat.mod_one]
end Go.Proofs.Ytpbkbkbifidbpaa
