import Derived.Test.YtfnlimcgoeknjaaBytesW
namespace Go.Proofs.Ytfnlimcgoeknjaa
open Go.RowKit Go

set_option maxRecDepth 20000 in
set_option maxHeartbeats 4000000 in
theorem refInts_any {A B : Option Addr} {c d : Nat} {l m : List Int} {w : World} (hl : Rd w A (ints .i64 l)) (hm : Rd w B (ints .i64 m)) :
    Calls Try.prog 79 #[.slice A l.length c, .slice B m.length d] w fun e w' => e = .returned (.bool (decide (l = m))) ∧ Fr No w w' := by
  have h1 := hl.1
  have h2 := hm.1
  rw [ints_length] at h1 h2
  have HL := Lib.hid hl
  have HM := Lib.hid hm
  clear hl hm
  by_cases hlen : l.length = m.length
  · have HE := Lib.hid hlen
    go_enter Try.func79, Try.ntmps79
    go_wp2
    go_loopg [5] l.length (fun g i wr => ∃ k : Nat, k + g = l.length ∧ i = .int .i64 (k : Int) ∧ Hid (∀ j, j < k → l.getD j 0 = m.getD j 0) ∧ Fr No w wr)
    case atStart => exact ⟨0, by omega, rfl, (by show ∀ j, _; intro j h; omega), Fr.refl _ _⟩
    case round =>
      obtain ⟨k, hk, rfl, S, F⟩ := hrel
      by_cases hlt : k < l.length
      · obtain ⟨ad, rfl, cx⟩ := (HL.out.no F).int hlt
        obtain ⟨bd, rfl, cy⟩ := (HM.out.no F).int (show k < m.length by have := HE.out; omega)
        have i4 : (k : Int) < (m.length : Int) := by have := HE.out; omega
        obtain ⟨x, hx⟩ : ∃ x, l.getD k 0 = x := ⟨_, rfl⟩
        obtain ⟨y, hy⟩ : ∃ y, m.getD k 0 = y := ⟨_, rfl⟩
        rw [hx] at cx
        rw [hy] at cy
        by_cases hxy : x = y
        · have e1 : (x != y) = false := by rw [hxy]; simp
          have S' : Hid (∀ j, j < k + 1 → l.getD j 0 = m.getD j 0) := by
            show ∀ j, _
            intro j hj
            by_cases e : j = k
            · subst e; rw [hx, hy, hxy]
            · exact S.out j (by omega)
          clear hxy hx hy
          go_wp2
          go_quiet (fail)
          go_wp2
          go_roundg (l.length - (k + 1))
          case measure => omega
          case rel => exact ⟨k + 1, by omega, by go_num, S', F.drewN _⟩
        · have e1 : (x != y) = true := by simpa using hxy
          have R : Hid (decide (l = m) = false) := by
            show decide (l = m) = false
            rw [decide_eq_false_iff_not]
            intro h
            exact hxy (by rw [← hx, ← hy, h])
          clear hxy hx hy
          go_wp2
          go_quiet (fail)
          go_wp2
          go_ret
          exact ⟨by rw [R.out]; rfl, F.drewN _⟩
      · have R : Hid (decide (l = m) = true) := by
          show decide (l = m) = true
          rw [decide_eq_true_eq]
          apply List.ext_getElem? 
          intro j
          by_cases hj : j < l.length
          · have h := S.out j (by omega)
            rw [List.getD_eq_getElem?_getD, List.getD_eq_getElem?_getD, List.getElem?_eq_getElem hj, List.getElem?_eq_getElem (by have := HE.out; omega)] at h
            rw [List.getElem?_eq_getElem hj, List.getElem?_eq_getElem (by have := HE.out; omega)]
            simpa using h
          · rw [List.getElem?_eq_none (by omega), List.getElem?_eq_none (by have := HE.out; omega)]
        go_wp2
        go_ret
        exact ⟨by rw [R.out]; rfl, F⟩
  · have R : Hid (decide (l = m) = false) := by
      show decide (l = m) = false
      rw [decide_eq_false_iff_not]
      intro h
      exact hlen (by rw [h])
    have i0 : ¬ (l.length : Int) = (m.length : Int) := by omega
    go_enter Try.func79, Try.ntmps79
    go_wp2
    go_ret
    exact ⟨by rw [R.out]; rfl, Fr.refl _ _⟩

set_option maxRecDepth 20000 in
set_option maxHeartbeats 4000000 in
theorem slicesInts_any {A B : Option Addr} {c d : Nat} {l m : List Int} {w : World} (hl : Rd w A (ints .i64 l)) (hm : Rd w B (ints .i64 m)) :
    Calls Try.prog 58 #[.slice A l.length c, .slice B m.length d] w fun e w' => e = .returned (.bool (decide (l = m))) ∧ Fr No w w' := by
  have h1 := hl.1
  have h2 := hm.1
  rw [ints_length] at h1 h2
  have HL := Lib.hid hl
  have HM := Lib.hid hm
  clear hl hm
  by_cases hlen : l.length = m.length
  · have HE := Lib.hid hlen
    go_enter Try.func58, Try.ntmps58
    go_wp2
    go_loopg [13] l.length (fun g i wr => ∃ k : Nat, k + g = l.length ∧ i = .int .i64 (k : Int) ∧ Hid (∀ j, j < k → l.getD j 0 = m.getD j 0) ∧ Fr No w wr)
    case atStart => exact ⟨0, by omega, rfl, (by show ∀ j, _; intro j h; omega), Fr.refl _ _⟩
    case round =>
      obtain ⟨k, hk, rfl, S, F⟩ := hrel
      by_cases hlt : k < l.length
      · obtain ⟨ad, rfl, cx⟩ := (HL.out.no F).int hlt
        obtain ⟨bd, rfl, cy⟩ := (HM.out.no F).int (show k < m.length by have := HE.out; omega)
        have i4 : (k : Int) < (m.length : Int) := by have := HE.out; omega
        obtain ⟨x, hx⟩ : ∃ x, l.getD k 0 = x := ⟨_, rfl⟩
        obtain ⟨y, hy⟩ : ∃ y, m.getD k 0 = y := ⟨_, rfl⟩
        rw [hx] at cx
        rw [hy] at cy
        by_cases hxy : x = y
        · have e1 : (x != y) = false := by rw [hxy]; simp
          have S' : Hid (∀ j, j < k + 1 → l.getD j 0 = m.getD j 0) := by
            show ∀ j, _
            intro j hj
            by_cases e : j = k
            · subst e; rw [hx, hy, hxy]
            · exact S.out j (by omega)
          clear hxy hx hy
          go_wp2
          go_quiet (fail)
          go_wp2
          go_roundg (l.length - (k + 1))
          case measure => omega
          case rel => exact ⟨k + 1, by omega, by go_num, S', F.drewN _⟩
        · have e1 : (x != y) = true := by simpa using hxy
          have R : Hid (decide (l = m) = false) := by
            show decide (l = m) = false
            rw [decide_eq_false_iff_not]
            intro h
            exact hxy (by rw [← hx, ← hy, h])
          clear hxy hx hy
          go_wp2
          go_quiet (fail)
          go_wp2
          go_ret
          exact ⟨by rw [R.out]; rfl, F.drewN _⟩
      · have R : Hid (decide (l = m) = true) := by
          show decide (l = m) = true
          rw [decide_eq_true_eq]
          apply List.ext_getElem? 
          intro j
          by_cases hj : j < l.length
          · have h := S.out j (by omega)
            rw [List.getD_eq_getElem?_getD, List.getD_eq_getElem?_getD, List.getElem?_eq_getElem hj, List.getElem?_eq_getElem (by have := HE.out; omega)] at h
            rw [List.getElem?_eq_getElem hj, List.getElem?_eq_getElem (by have := HE.out; omega)]
            simpa using h
          · rw [List.getElem?_eq_none (by omega), List.getElem?_eq_none (by have := HE.out; omega)]
        go_wp2
        go_ret
        exact ⟨by rw [R.out]; rfl, F⟩
  · have R : Hid (decide (l = m) = false) := by
      show decide (l = m) = false
      rw [decide_eq_false_iff_not]
      intro h
      exact hlen (by rw [h])
    have i0 : ¬ (l.length : Int) = (m.length : Int) := by omega
    go_enter Try.func58, Try.ntmps58
    go_wp2
    go_ret
    exact ⟨by rw [R.out]; rfl, Fr.refl _ _⟩
end Go.Proofs.Ytfnlimcgoeknjaa
