import Derived.Test.YtngjfebndhmlmaaBackP
namespace Go.Proofs.Ytngjfebndhmlmaa
open Go.RowKit Go

/-- A reading that has not failed: where it was, where it is. -/
theorem nx_ok {l : List UInt8} {s : Pl} {m : Nat} (h : (nx l s m).2 = false) (hs : s.1 ≤ 8 * l.length) : s.2 = false ∧ (nx l s m).1 = s.1 + m ∧ s.1 + m ≤ 8 * l.length := by
  unfold nx at h ⊢
  simp only [Bool.or_eq_false_iff] at h
  obtain ⟨h1, h2⟩ := h
  refine ⟨h1, ?_, ?_⟩
  · unfold nextAt
    simp only
    rw [if_neg (by rw [h2]; decide)]
  · unfold over left at h2
    rw [h1] at h2
    simp at h2
    omega
theorem nx_le {l : List UInt8} {s : Pl} {m : Nat} (hs : s.1 ≤ 8 * l.length) : (nx l s m).1 ≤ 8 * l.length := by
  unfold nx nextAt
  simp only
  split
  · exact hs
  · rename_i ho
    unfold over left at ho
    by_cases hf : s.2 = true
    · rw [hf] at ho; simp at ho; omega
    · simp [hf] at ho; omega
theorem many_le {l : List UInt8} {s : Pl} {m : Nat} (hs : s.1 ≤ 8 * l.length) : ∀ n, (manyS l s m n).1 ≤ 8 * l.length
  | 0 => hs
  | n + 1 => nx_le (many_le hs n)
theorem many_ok {l : List UInt8} {s : Pl} {m : Nat} : ∀ {n : Nat}, (manyS l s m n).2 = false → s.1 ≤ 8 * l.length → s.2 = false ∧ (manyS l s m n).1 = s.1 + m * n ∧ s.1 + m * n ≤ 8 * l.length
  | 0, h, hs => ⟨h, by simp [manyS], by simpa using hs⟩
  | n + 1, h, hs => by
    have hpos : (manyS l s m n).1 ≤ 8 * l.length := many_le hs n
    obtain ⟨h1, h2, h3⟩ := nx_ok (s := manyS l s m n) h hpos
    obtain ⟨k1, k2, k3⟩ := many_ok h1 hs
    refine ⟨k1, ?_, ?_⟩
    · show (nx l (manyS l s m n) m).1 = _
      rw [h2, k2, Nat.mul_succ]; omega
    · rw [k2] at h3; rw [Nat.mul_succ]; omega

/-- Bits of a prefix, read without failing, are the bits of the whole. -/
theorem gt_cut {b : List Bool} {k : Nat} {s : Pl} {m : Nat} (h : (nx ((pack b).take k) s m).2 = false) (hs : s.1 ≤ 8 * ((pack b).take k).length) : gt ((pack b).take k) s m = num (bitAt b) s.1 m := by
  obtain ⟨h1, _, h3⟩ := nx_ok h hs
  unfold nx at h
  simp only [Bool.or_eq_false_iff] at h
  unfold gt got
  rw [if_neg (by rw [h.2]; decide)]
  apply num_congr
  intro j hj
  rw [bitAt_ofBytes, ← bitAt_pack b, bitAt_ofBytes]
  congr 2
  have hlt : (s.1 + j) / 8 < ((pack b).take k).length := by omega
  rw [List.getD_eq_getElem?_getD, List.getD_eq_getElem?_getD, List.getElem?_eq_getElem hlt, List.getElem_take]
  rw [List.length_take] at hlt
  rw [List.getElem?_eq_getElem (by omega)]

theorem dec_cut (m : Msg) (h : Good m) (k : Nat) (hk : k < (pack (mbits m)).length) : decM ((pack (mbits m)).take k) = (mnone, 4) := by
  obtain ⟨hkd, _, _, _, _, _, _, hlen, hnil⟩ := h
  obtain ⟨kd, t, tm, d, a, wh, tr⟩ := m
  simp only at hkd hlen hnil
  obtain ⟨b, hb⟩ : ∃ b, mbits ⟨kd, t, tm, d, a, wh, tr⟩ = b := ⟨_, rfl⟩
  rw [hb] at hk ⊢
  unfold mbits at hb
  simp only at hb
  obtain ⟨l, hl⟩ : ∃ l, (pack b).take k = l := ⟨_, rfl⟩
  have hll : l.length = k := by rw [← hl, List.length_take]; omega
  rw [pack_length] at hk
  have hbl : 8 * l.length < b.length := by omega
  have hcut : ∀ (s : Pl) (m : Nat), (nx l s m).2 = false → s.1 ≤ 8 * l.length → gt l s m = num (bitAt b) s.1 m := by
    intro s m h1 h2
    rw [← hl] at h1 h2 ⊢
    exact gt_cut h1 h2
  obtain ⟨Y, hY⟩ : ∃ Y, putBits (u64 t) 6 ++ putBits (u64 tm) 25 ++ (if kd = 3 then putBits (u64 d) 1 ++ putBits (u64 a) 14 ++ [wh] else []) ++ (if kd = 3 ∨ kd = 6 then tbits tr else []) = Y := ⟨_, rfl⟩
  have hb2 : b = [] ++ putBits kd 3 ++ Y := by rw [← hb, ← hY]; simp [List.append_assoc]
  have hkind : num (bitAt b) 0 3 = kd := by
    have := num_put [] Y kd 3
    rw [← hb2] at this
    rw [Nat.mod_eq_of_lt (by omega)] at this
    exact this
  rw [hl]
  unfold decM
  by_cases f1 : (nx l (0, false) 3).2 = true
  · rw [if_pos f1]
  have o1 := nx_ok (s := (0, false)) (show (nx l (0, false) 3).2 = false by simpa using f1) (by simp)
  have g1 := hcut (0, false) 3 (by simpa using f1) (by simp)
  simp only at o1 g1
  rw [hkind] at g1
  rw [if_neg f1, g1, if_neg (by omega)]
  obtain ⟨s1, hs1⟩ : ∃ s1, nx l (0, false) 3 = s1 := ⟨_, rfl⟩
  rw [hs1] at o1 ⊢
  have key : ∀ (M : Msg) (S : Pl), (S.2 = false → False) → fin l M S = (mnone, 4) := by
    intro M S hS
    unfold fin
    rw [if_pos (by cases hq : S.2 with
      | true => rfl
      | false => exact (hS hq).elim)]
  -- what a reading that does not fail has read
  have two : ∀ S : Pl, S = nx l (nx l s1 6) 25 → S.2 = false → S.1 = 34 ∧ 34 ≤ 8 * l.length := by
    intro S hS h
    subst hS
    have p0 : s1.1 ≤ 8 * l.length := by omega
    have q1 : (nx l s1 6).1 ≤ 8 * l.length := nx_le p0
    obtain ⟨a1, a2, a3⟩ := nx_ok h q1
    obtain ⟨b1, b2, b3⟩ := nx_ok a1 p0
    omega
  by_cases h3 : kd = 3
  · subst h3
    rw [if_pos rfl]
    apply key
    intro hS
    have p0 : s1.1 ≤ 8 * l.length := by omega
    have p2 : (nx l s1 6).1 ≤ 8 * l.length := nx_le p0
    have p3 : (nx l (nx l s1 6) 25).1 ≤ 8 * l.length := nx_le p2
    obtain ⟨s3, hs3⟩ : ∃ s3, nx l (nx l s1 6) 25 = s3 := ⟨_, rfl⟩
    rw [hs3] at hS p3
    have p4 : (nx l s3 1).1 ≤ 8 * l.length := nx_le p3
    have p5 : (nx l (nx l s3 1) 14).1 ≤ 8 * l.length := nx_le p4
    have p6 : (nx l (nx l (nx l s3 1) 14) 1).1 ≤ 8 * l.length := nx_le p5
    obtain ⟨s6, hs6⟩ : ∃ s6, nx l (nx l (nx l s3 1) 14) 1 = s6 := ⟨_, rfl⟩
    rw [hs6] at hS p6
    unfold trailS at hS
    obtain ⟨c1, c2, c3⟩ := many_ok hS (nx_le p6)
    obtain ⟨d1, d2, d3⟩ := nx_ok c1 p6
    have d0 := d1
    rw [← hs6] at d0
    obtain ⟨e1, e2, e3⟩ := nx_ok d0 p5
    obtain ⟨g1, g2, g3⟩ := nx_ok e1 p4
    obtain ⟨i1, i2, i3⟩ := nx_ok g1 p3
    have h34 := two s3 hs3.symm i1
    rw [hs6] at e2
    have hn := hcut s6 4 c1 p6
    have hs50 : s6.1 = 50 := by omega
    rw [hs50] at hn
    rw [if_pos rfl, if_pos (Or.inl rfl)] at hY
    have hnl : num (bitAt b) 50 4 = tr.length := by
      have := num_put ([] ++ putBits 3 3 ++ (putBits (u64 t) 6 ++ putBits (u64 tm) 25 ++ (putBits (u64 d) 1 ++ putBits (u64 a) 14 ++ [wh]))) (sixes tr) tr.length 4
      rw [Nat.mod_eq_of_lt (by omega)] at this
      have e : [] ++ putBits 3 3 ++ (putBits (u64 t) 6 ++ putBits (u64 tm) 25 ++ (putBits (u64 d) 1 ++ putBits (u64 a) 14 ++ [wh])) ++ putBits tr.length 4 ++ sixes tr = b := by rw [hb2, ← hY]; simp [tbits, List.append_assoc]
      rw [e] at this
      have e2 : ([] ++ putBits 3 3 ++ (putBits (u64 t) 6 ++ putBits (u64 tm) 25 ++ (putBits (u64 d) 1 ++ putBits (u64 a) 14 ++ [wh]))).length = 50 := by simp [putBits_length]
      rw [e2] at this
      exact this
    rw [hnl] at hn
    rw [hn] at c3
    have hbl2 : b.length = 54 + 6 * tr.length := by rw [hb2, ← hY]; simp [putBits_length, tbits_length]; omega
    omega
  · rw [if_neg h3]
    by_cases h6 : kd = 6
    · subst h6
      rw [if_pos rfl]
      apply key
      intro hS
      have p0 : s1.1 ≤ 8 * l.length := by omega
      have p2 : (nx l s1 6).1 ≤ 8 * l.length := nx_le p0
      have p3 : (nx l (nx l s1 6) 25).1 ≤ 8 * l.length := nx_le p2
      obtain ⟨s3, hs3⟩ : ∃ s3, nx l (nx l s1 6) 25 = s3 := ⟨_, rfl⟩
      rw [hs3] at hS p3
      unfold trailS at hS
      obtain ⟨c1, c2, c3⟩ := many_ok hS (nx_le p3)
      obtain ⟨d1, d2, d3⟩ := nx_ok c1 p3
      have h34 := two s3 hs3.symm d1
      have hn := hcut s3 4 c1 p3
      rw [h34.1] at hn
      rw [if_neg h3, if_pos (Or.inr rfl)] at hY
      have hnl : num (bitAt b) 34 4 = tr.length := by
        have := num_put ([] ++ putBits 6 3 ++ (putBits (u64 t) 6 ++ putBits (u64 tm) 25)) (sixes tr) tr.length 4
        rw [Nat.mod_eq_of_lt (by omega)] at this
        have e : [] ++ putBits 6 3 ++ (putBits (u64 t) 6 ++ putBits (u64 tm) 25) ++ putBits tr.length 4 ++ sixes tr = b := by rw [hb2, ← hY]; simp [tbits, List.append_assoc]
        rw [e] at this
        have e2 : ([] ++ putBits 6 3 ++ (putBits (u64 t) 6 ++ putBits (u64 tm) 25)).length = 34 := by simp [putBits_length]
        rw [e2] at this
        exact this
      rw [hnl] at hn
      rw [hn] at c3
      have hbl2 : b.length = 38 + 6 * tr.length := by rw [hb2, ← hY]; simp [putBits_length, tbits_length]; omega
      omega
    · rw [if_neg h6]
      apply key
      intro hS
      have h34 := two _ rfl hS
      have : b.length = 34 := by
        rw [hb2, ← hY, if_neg h3, if_neg (by omega)]
        simp [putBits_length]
      omega
end Go.Proofs.Ytngjfebndhmlmaa
