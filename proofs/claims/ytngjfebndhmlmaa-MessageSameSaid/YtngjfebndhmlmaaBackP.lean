import Derived.Test.YtngjfebndhmlmaaTurnM
namespace Go.Proofs.Ytngjfebndhmlmaa
open Go.RowKit Go

theorem read_put {b : List Bool} (x y : List Bool) (N m : Nat) (hb : b = x ++ putBits N m ++ y) :
    gt (pack b) (x.length, false) m = N % 2 ^ m ∧ nx (pack b) (x.length, false) m = ((x ++ putBits N m).length, false) := by
  have hle : x.length + m ≤ b.length := by rw [hb]; simp only [List.length_append, putBits_length]; omega
  have ho : over (pack b) x.length false m = false := by
    unfold over left
    rw [pack_length]
    simp
    omega
  refine ⟨?_, ?_⟩
  · unfold gt got
    simp only
    rw [if_neg (by rw [ho]; decide)]
    rw [num_congr (g := bitAt b) (t := x.length) (fun j _ => bitAt_pack _ _), hb]
    exact num_put x y N m
  · unfold nx nextAt
    simp only
    rw [if_neg (by rw [ho]; decide), ho, List.length_append, putBits_length]
    rfl
theorem many_put (tr : List Int) (h6 : ∀ v ∈ tr, 0 ≤ v ∧ v < 64) {b : List Bool} (x y : List Bool) (hb : b = x ++ sixes tr ++ y) :
    ∀ j, j ≤ tr.length → manyL (pack b) (x.length, false) 6 j = tr.take j ∧ manyS (pack b) (x.length, false) 6 j = ((x ++ sixes (tr.take j)).length, false)
  | 0, _ => by simp [manyL, manyS, sixes]
  | j + 1, hj => by
    obtain ⟨e1, e2⟩ := many_put tr h6 x y hb j (by omega)
    have hs : sixes tr = sixes (tr.take j) ++ putBits (u64 (tr.getD j 0)) 6 ++ sixes (tr.drop (j + 1)) := by
      rw [← sixes_take tr j (by omega)]
      unfold sixes
      rw [← List.flatMap_append, List.take_append_drop]
    have hr := read_put (b := b) (x ++ sixes (tr.take j)) (sixes (tr.drop (j + 1)) ++ y) (u64 (tr.getD j 0)) 6 (by rw [hb, hs]; simp [List.append_assoc])
    have hv := h6 (tr.getD j 0) (by rw [List.getD_eq_getElem?_getD, List.getElem?_eq_getElem (by omega)]; exact List.getElem_mem (by omega))
    refine ⟨?_, ?_⟩
    · show manyL (pack b) (x.length, false) 6 j ++ [(gt (pack b) (manyS (pack b) (x.length, false) 6 j) 6 : Int)] = _
      rw [e1, e2, hr.1, List.take_add_one, List.getD_eq_getElem?_getD, List.getElem?_eq_getElem (show j < tr.length by omega)]
      rw [List.getD_eq_getElem?_getD, List.getElem?_eq_getElem (show j < tr.length by omega)] at hv
      simp only [Option.getD_some, Option.toList_some] at hv ⊢
      congr 2
      unfold u64
      omega
    · show nx (pack b) (manyS (pack b) (x.length, false) 6 j) 6 = _
      rw [e2, hr.2, sixes_take tr j (by omega), List.append_assoc]
theorem back_end (b : List Bool) : ends (pack b) b.length false = true := by
  have h1 : num (bitAt (ofBytes (pack b))) b.length (8 * ((b.length + 7) / 8) - b.length) = 0 := by
    rw [num_zero]
    intro j _
    rw [bitAt_pack]
    exact bitAt_out (by omega)
  unfold ends
  rw [pack_length, h1]
  simp
  omega
theorem trail_put (tr : List Int) (h6 : ∀ v ∈ tr, 0 ≤ v ∧ v < 64) (hl : tr.length ≤ 15) {b : List Bool} (x : List Bool) (hb : b = x ++ tbits tr) :
    trailL (pack b) (x.length, false) = tr ∧ trailS (pack b) (x.length, false) = (b.length, false) := by
  have hr := read_put (b := b) x (sixes tr) tr.length 4 (by rw [hb]; simp [tbits, List.append_assoc])
  rw [Nat.mod_eq_of_lt (by omega)] at hr
  have hm := many_put tr h6 (b := b) (x ++ putBits tr.length 4) [] (by rw [hb]; simp [tbits, List.append_assoc]) tr.length (Nat.le_refl _)
  unfold trailL trailS
  rw [hr.1, hr.2, hm.1, hm.2, List.take_length]
  refine ⟨rfl, ?_⟩
  rw [hb]
  simp [tbits, List.append_assoc]

/-- A message that is read as it was written. -/
structure Good (m : Msg) : Prop where
  k : 1 ≤ m.k ∧ m.k ≤ 6
  t : 0 ≤ m.t ∧ m.t < 64
  tm : 0 ≤ m.tm ∧ m.tm < 33554432
  d : 0 ≤ m.d ∧ m.d < 2
  a : 0 ≤ m.a ∧ m.a < 16384
  no : m.k ≠ 3 → m.d = 0 ∧ m.a = 0 ∧ m.wh = false
  tr : ∀ v ∈ m.tr, 0 ≤ v ∧ v < 64
  len : m.tr.length ≤ 15
  nil : m.k ≠ 3 → m.k ≠ 6 → m.tr = []
theorem good_ofM (K t0 d0 m0 a0 : Nat) (wh : Bool) (tl : List UInt8) : Good (ofM K t0 d0 m0 a0 wh tl) := by
  refine ⟨⟨by show 1 ≤ K % 6 + 1; omega, by show K % 6 + 1 ≤ 6; omega⟩, by show 0 ≤ ((t0 % 64 : Nat) : Int) ∧ ((t0 % 64 : Nat) : Int) < 64; omega, by show 0 ≤ ((m0 % 33554432 : Nat) : Int) ∧ ((m0 % 33554432 : Nat) : Int) < 33554432; omega, ?_, ?_, ?_, ?_, (ofM_k K t0 d0 m0 a0 wh tl).2, ?_⟩
  · show 0 ≤ (if K % 6 + 1 = 3 then ((d0 % 2 : Nat) : Int) else 0) ∧ (if K % 6 + 1 = 3 then ((d0 % 2 : Nat) : Int) else 0) < 2
    split <;> omega
  · show 0 ≤ (if K % 6 + 1 = 3 then ((a0 % 16384 : Nat) : Int) else 0) ∧ (if K % 6 + 1 = 3 then ((a0 % 16384 : Nat) : Int) else 0) < 16384
    split <;> omega
  · intro h
    have h' : ¬ K % 6 + 1 = 3 := h
    show (if K % 6 + 1 = 3 then ((d0 % 2 : Nat) : Int) else 0) = 0 ∧ (if K % 6 + 1 = 3 then ((a0 % 16384 : Nat) : Int) else 0) = 0 ∧ (if K % 6 + 1 = 3 then wh else false) = false
    rw [if_neg h', if_neg h', if_neg h']
    exact ⟨rfl, rfl, rfl⟩
  · intro v hv
    have hv' : v ∈ (if K % 6 + 1 = 3 ∨ K % 6 + 1 = 6 then low6 (tl.take (min tl.length 15)) else []) := hv
    split at hv'
    · unfold low6 at hv'
      obtain ⟨b, _, rfl⟩ := List.mem_map.1 hv'
      omega
    · simp at hv'
  · intro h3 h6
    have h3' : ¬ K % 6 + 1 = 3 := h3
    have h6' : ¬ K % 6 + 1 = 6 := h6
    show (if K % 6 + 1 = 3 ∨ K % 6 + 1 = 6 then low6 (tl.take (min tl.length 15)) else []) = []
    rw [if_neg (by omega)]
theorem u64_mod (v : Int) (m : Nat) (h0 : 0 ≤ v) (h : v < 2 ^ m) (hm : m ≤ 63) : ((u64 v % 2 ^ m : Nat) : Int) = v := by
  have h63 : (2 : Int) ^ m ≤ 2 ^ 63 := by exact_mod_cast Nat.pow_le_pow_right (by omega : 0 < 2) hm
  have hu : u64 v = v.toNat := by unfold u64; omega
  rw [hu, Nat.mod_eq_of_lt (by have : v < ((2 ^ m : Nat) : Int) := by exact_mod_cast h
                               omega)]
  omega

theorem dec_back (m : Msg) (h : Good m) : decM (pack (mbits m)) = (m, 0) := by
  obtain ⟨hk, ht, htm, hd, ha, hno, htr, hlen, hnil⟩ := h
  obtain ⟨k, t, tm, d, a, wh, tr⟩ := m
  simp only at hk ht htm hd ha hno htr hlen hnil
  obtain ⟨b, hb⟩ : ∃ b, mbits ⟨k, t, tm, d, a, wh, tr⟩ = b := ⟨_, rfl⟩
  rw [hb]
  have hb' := hb
  unfold mbits at hb'
  simp only at hb'
  obtain ⟨Y, hY⟩ : ∃ Y, (if k = 3 then putBits (u64 d) 1 ++ putBits (u64 a) 14 ++ [wh] else []) ++ (if k = 3 ∨ k = 6 then tbits tr else []) = Y := ⟨_, rfl⟩
  have hb2 : b = [] ++ putBits k 3 ++ (putBits (u64 t) 6 ++ (putBits (u64 tm) 25 ++ Y)) := by rw [← hb', ← hY]; simp [List.append_assoc]
  have r1 := read_put (b := b) [] _ k 3 hb2
  rw [Nat.mod_eq_of_lt (by omega)] at r1
  have r2 := read_put (b := b) ([] ++ putBits k 3) (putBits (u64 tm) 25 ++ Y) (u64 t) 6 (by rw [hb2]; simp [List.append_assoc])
  have r3 := read_put (b := b) ([] ++ putBits k 3 ++ putBits (u64 t) 6) Y (u64 tm) 25 (by rw [hb2]; simp [List.append_assoc])
  have e1 := u64_mod t 6 ht.1 (by omega) (by omega)
  have e2 := u64_mod tm 25 htm.1 (by omega) (by omega)
  have r0 : nx (pack b) (0, false) 3 = (([] ++ putBits k 3).length, false) := r1.2
  have g0 : gt (pack b) (0, false) 3 = k := r1.1
  unfold decM
  rw [g0, r0, r2.2, r3.2, r2.1, r3.1, e1, e2, if_neg (by simp), if_neg (by omega)]
  by_cases h3 : k = 3
  · subst h3
    rw [if_pos rfl]
    rw [if_pos rfl, if_pos (Or.inl rfl)] at hY
    have r4 := read_put (b := b) ([] ++ putBits 3 3 ++ putBits (u64 t) 6 ++ putBits (u64 tm) 25) (putBits (u64 a) 14 ++ [wh] ++ tbits tr) (u64 d) 1 (by rw [hb2, ← hY]; simp [List.append_assoc])
    have r5 := read_put (b := b) ([] ++ putBits 3 3 ++ putBits (u64 t) 6 ++ putBits (u64 tm) 25 ++ putBits (u64 d) 1) ([wh] ++ tbits tr) (u64 a) 14 (by rw [hb2, ← hY]; simp [List.append_assoc])
    have r6 := read_put (b := b) ([] ++ putBits 3 3 ++ putBits (u64 t) 6 ++ putBits (u64 tm) 25 ++ putBits (u64 d) 1 ++ putBits (u64 a) 14) (tbits tr) wh.toNat 1 (by rw [put_flag, hb2, ← hY]; simp [List.append_assoc])
    have r7 := trail_put tr htr hlen (b := b) ([] ++ putBits 3 3 ++ putBits (u64 t) 6 ++ putBits (u64 tm) 25 ++ putBits (u64 d) 1 ++ putBits (u64 a) 14 ++ putBits wh.toNat 1) (by rw [put_flag, hb2, ← hY]; simp [List.append_assoc])
    have e3 := u64_mod d 1 hd.1 (by omega) (by omega)
    have e4 := u64_mod a 14 ha.1 (by omega) (by omega)
    rw [r4.2, r5.2, r6.2, r4.1, r5.1, r6.1, r7.1, r7.2, e3, e4]
    have e5 : decide (wh.toNat % 2 ^ 1 = 1) = wh := by cases wh <;> rfl
    rw [e5]
    unfold fin
    rw [if_neg (by simp), if_pos (back_end b)]
  · rw [if_neg h3]
    obtain ⟨n1, n2, n3⟩ := hno h3
    subst n1 n2 n3
    by_cases h6 : k = 6
    · subst h6
      rw [if_pos rfl]
      rw [if_neg (by decide), if_pos (Or.inr rfl), List.nil_append] at hY
      have r7 := trail_put tr htr hlen (b := b) ([] ++ putBits 6 3 ++ putBits (u64 t) 6 ++ putBits (u64 tm) 25) (by rw [hb2, ← hY]; simp [List.append_assoc])
      rw [r7.1, r7.2]
      unfold fin
      rw [if_neg (by simp), if_pos (back_end b)]
    · rw [if_neg h6]
      rw [if_neg h3, if_neg (by omega), List.nil_append] at hY
      have hbl : b.length = ([] ++ putBits k 3 ++ putBits (u64 t) 6 ++ putBits (u64 tm) 25).length := by rw [hb2, ← hY]; simp [List.append_assoc]
      rw [← hbl]
      unfold fin
      rw [if_neg (by simp), if_pos (back_end b), hnil h3 h6]
end Go.Proofs.Ytngjfebndhmlmaa
