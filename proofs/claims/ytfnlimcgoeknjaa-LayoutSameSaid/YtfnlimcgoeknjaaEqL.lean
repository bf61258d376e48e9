import Derived.Test.YtfnlimcgoeknjaaSameX
import Derived.Test.YtfnlimcgoeknjaaSameI
namespace Go.Proofs.Ytfnlimcgoeknjaa
open Go.RowKit Go Fl

theorem neq_sec (x y z x' y' z' : Int) (w : World) : (binOp .neq 48 (.agg #[.int .i64 x, .int .i64 y, .int .i64 z]) (.agg #[.int .i64 x', .int .i64 y', .int .i64 z'])).run Try.prog w = .ok (.bool (!decide ((x, y, z) = (x', y', z')))) w := by
  by_cases h1 : x = x'
  · subst h1
    by_cases h2 : y = y'
    · subst h2
      by_cases h3 : z = z'
      · subst h3; go_simp
      · go_simp
    · go_simp
  · go_simp
theorem neq_poi (x y z u x' y' z' u' : Int) (w : World) : (binOp .neq 51 (.agg #[.int .i64 x, .int .i64 y, .int .i64 z, .int .i64 u]) (.agg #[.int .i64 x', .int .i64 y', .int .i64 z', .int .i64 u'])).run Try.prog w = .ok (.bool (!decide ((x, y, z, u) = (x', y', z', u')))) w := by
  by_cases h1 : x = x'
  · subst h1
    by_cases h2 : y = y'
    · subst h2
      by_cases h3 : z = z'
      · subst h3
        by_cases h4 : u = u'
        · subst h4; go_simp
        · go_simp
      · go_simp
    · go_simp
  · go_simp
theorem neq_cx (x y x' y' : Int) (hx : x.natAbs < 2 ^ 53 ∧ y.natAbs < 2 ^ 53) (hx' : x'.natAbs < 2 ^ 53 ∧ y'.natAbs < 2 ^ 53) (w : World) : (binOp .neq 45 (.complex .f64 (F x) (F y)) (.complex .f64 (F x') (F y'))).run Try.prog w = .ok (.bool (!decide ((x, y) = (x', y')))) w := by
  have o1 : (FloatKind.f64.format.order (F x) (F x') == some Ordering.eq) = decide (x = x') := ord_eq (isF x) (isF x') hx.1 hx'.1
  have o2 : (FloatKind.f64.format.order (F y) (F y') == some Ordering.eq) = decide (y = y') := ord_eq (isF y) (isF y') hx.2 hx'.2
  by_cases h1 : x = x'
  · subst h1
    by_cases h2 : y = y'
    · subst h2
      rw [decide_eq_true rfl] at o1 o2
      go_simp
    · rw [decide_eq_true rfl] at o1
      rw [decide_eq_false h2] at o2
      go_simp
  · rw [decide_eq_false h1] at o1
    go_simp


set_option maxRecDepth 20000 in
set_option maxHeartbeats 4000000 in
theorem slicesS_any {A B : Option Addr} {c d : Nat} {l m : List (Int × Int × Int)} {w : World} (hl : RdK w A 3 l.length (l.flatMap sei)) (hm : RdK w B 3 m.length (m.flatMap sei)) :
    Calls Try.prog 56 #[.slice A l.length c, .slice B m.length d] w fun e w' => e = .returned (.bool (decide (l = m))) ∧ Fr No w w' := by
  have h1 := hl.2.1
  have h2 := hm.2.1
  have HL := Lib.hid hl
  have HM := Lib.hid hm
  clear hl hm
  by_cases hlen : l.length = m.length
  · have HE := Lib.hid hlen
    go_enter Try.func56, Try.ntmps56
    go_wp2
    go_loopg [13] l.length (fun g i wr => ∃ k : Nat, k + g = l.length ∧ i = .int .i64 (k : Int) ∧ Hid (l.take k = m.take k) ∧ Fr No w wr)
    case atStart => exact ⟨0, by omega, rfl, (by show l.take 0 = m.take 0; simp), Fr.refl _ _⟩
    case round =>
      obtain ⟨k, hk, rfl, S, F⟩ := hrel
      by_cases hlt : k < l.length
      · have hlm : k < m.length := by have := HE.out; omega
        obtain ⟨ad, rfl, cx0, cx1, cx2⟩ := sei_at (HL.out.no F) hlt
        obtain ⟨bd, rfl, cy0, cy1, cy2⟩ := sei_at (HM.out.no F) hlm
        have i4 : (k : Int) < (m.length : Int) := by omega
        have i0 : (0 : Int) ≤ (k : Int) := by omega
        have tl := List.take_succ_eq_append_getElem hlt
        have tm := List.take_succ_eq_append_getElem hlm
        have hne : l[k] ≠ m[k] → l ≠ m := fun h e => h (by subst e; rfl)
        
        obtain ⟨⟨x, y, z⟩, hx⟩ : ∃ x, l[k] = x := ⟨_, rfl⟩
        obtain ⟨⟨x', y', z'⟩, hy⟩ : ∃ x, m[k] = x := ⟨_, rfl⟩
        rw [hx] at cx0 cx1 cx2 tl hne
        rw [hy] at cy0 cy1 cy2 tm hne
        skip
        simp only at cx0 cx1 cx2 cy0 cy1 cy2
        have hn := neq_sec x y z x' y' z'
        have TL := Lib.hid tl
        have TM := Lib.hid tm
        have HNE := Lib.hid hne
        clear tl tm hne hx hy
        by_cases he : (x, y, z) = (x', y', z')
        · rw [decide_eq_true he] at hn
          have S' : Hid (l.take (k + 1) = m.take (k + 1)) := by
            show l.take (k + 1) = m.take (k + 1)
            rw [TL.out, TM.out, S.out, he]
          simp only [Bool.not_true] at hn
          clear he
          go_wp2
          go_quiet (fail)
          go_wp2
          go_roundg (l.length - (k + 1))
          case measure => omega
          case rel => exact ⟨k + 1, by omega, by go_num, S', F.drewN _⟩
        · rw [decide_eq_false he] at hn
          have R : Hid (decide (l = m) = false) := decide_eq_false (HNE.out he)
          simp only [Bool.not_false] at hn
          clear he
          go_wp2
          go_quiet (fail)
          go_wp2
          go_ret
          exact ⟨by rw [R.out]; rfl, F.drewN _⟩
      · have R : Hid (decide (l = m) = true) := by
          show decide (l = m) = true
          rw [decide_eq_true_eq]
          have hs := S.out
          rw [List.take_of_length_le (by omega), List.take_of_length_le (by have := HE.out; omega)] at hs
          exact hs
        go_wp2
        go_ret
        exact ⟨by rw [R.out]; rfl, F⟩
  · have R : Hid (decide (l = m) = false) := by
      show decide (l = m) = false
      rw [decide_eq_false_iff_not]
      intro h
      exact hlen (by rw [h])
    have i0 : ¬ (l.length : Int) = (m.length : Int) := by omega
    go_enter Try.func56, Try.ntmps56
    go_wp2
    go_ret
    exact ⟨by rw [R.out]; rfl, Fr.refl _ _⟩


set_option maxRecDepth 20000 in
set_option maxHeartbeats 4000000 in
theorem slicesP_any {A B : Option Addr} {c d : Nat} {l m : List (Int × Int × Int × Int)} {w : World} (hl : RdK w A 4 l.length (l.flatMap poi)) (hm : RdK w B 4 m.length (m.flatMap poi)) :
    Calls Try.prog 59 #[.slice A l.length c, .slice B m.length d] w fun e w' => e = .returned (.bool (decide (l = m))) ∧ Fr No w w' := by
  have h1 := hl.2.1
  have h2 := hm.2.1
  have HL := Lib.hid hl
  have HM := Lib.hid hm
  clear hl hm
  by_cases hlen : l.length = m.length
  · have HE := Lib.hid hlen
    go_enter Try.func59, Try.ntmps59
    go_wp2
    go_loopg [13] l.length (fun g i wr => ∃ k : Nat, k + g = l.length ∧ i = .int .i64 (k : Int) ∧ Hid (l.take k = m.take k) ∧ Fr No w wr)
    case atStart => exact ⟨0, by omega, rfl, (by show l.take 0 = m.take 0; simp), Fr.refl _ _⟩
    case round =>
      obtain ⟨k, hk, rfl, S, F⟩ := hrel
      by_cases hlt : k < l.length
      · have hlm : k < m.length := by have := HE.out; omega
        obtain ⟨ad, rfl, cx0, cx1, cx2, cx3⟩ := poi_at (HL.out.no F) hlt
        obtain ⟨bd, rfl, cy0, cy1, cy2, cy3⟩ := poi_at (HM.out.no F) hlm
        have i4 : (k : Int) < (m.length : Int) := by omega
        have i0 : (0 : Int) ≤ (k : Int) := by omega
        have tl := List.take_succ_eq_append_getElem hlt
        have tm := List.take_succ_eq_append_getElem hlm
        have hne : l[k] ≠ m[k] → l ≠ m := fun h e => h (by subst e; rfl)
        
        obtain ⟨⟨x, y, z, u⟩, hx⟩ : ∃ x, l[k] = x := ⟨_, rfl⟩
        obtain ⟨⟨x', y', z', u'⟩, hy⟩ : ∃ x, m[k] = x := ⟨_, rfl⟩
        rw [hx] at cx0 cx1 cx2 cx3 tl hne
        rw [hy] at cy0 cy1 cy2 cy3 tm hne
        skip
        simp only at cx0 cx1 cx2 cx3 cy0 cy1 cy2 cy3
        have hn := neq_poi x y z u x' y' z' u'
        have TL := Lib.hid tl
        have TM := Lib.hid tm
        have HNE := Lib.hid hne
        clear tl tm hne hx hy
        by_cases he : (x, y, z, u) = (x', y', z', u')
        · rw [decide_eq_true he] at hn
          have S' : Hid (l.take (k + 1) = m.take (k + 1)) := by
            show l.take (k + 1) = m.take (k + 1)
            rw [TL.out, TM.out, S.out, he]
          simp only [Bool.not_true] at hn
          clear he
          go_wp2
          go_quiet (fail)
          go_wp2
          go_roundg (l.length - (k + 1))
          case measure => omega
          case rel => exact ⟨k + 1, by omega, by go_num, S', F.drewN _⟩
        · rw [decide_eq_false he] at hn
          have R : Hid (decide (l = m) = false) := decide_eq_false (HNE.out he)
          simp only [Bool.not_false] at hn
          clear he
          go_wp2
          go_quiet (fail)
          go_wp2
          go_ret
          exact ⟨by rw [R.out]; rfl, F.drewN _⟩
      · have R : Hid (decide (l = m) = true) := by
          show decide (l = m) = true
          rw [decide_eq_true_eq]
          have hs := S.out
          rw [List.take_of_length_le (by omega), List.take_of_length_le (by have := HE.out; omega)] at hs
          exact hs
        go_wp2
        go_ret
        exact ⟨by rw [R.out]; rfl, F⟩
  · have R : Hid (decide (l = m) = false) := by
      show decide (l = m) = false
      rw [decide_eq_false_iff_not]
      intro h
      exact hlen (by rw [h])
    have i0 : ¬ (l.length : Int) = (m.length : Int) := by omega
    go_enter Try.func59, Try.ntmps59
    go_wp2
    go_ret
    exact ⟨by rw [R.out]; rfl, Fr.refl _ _⟩


set_option maxRecDepth 20000 in
set_option maxHeartbeats 4000000 in
theorem slicesC_any {A B : Option Addr} {c d : Nat} {l m : List (Int × Int)} {w : World} (hl : RdK w A 1 l.length (l.flatMap cx1)) (hm : RdK w B 1 m.length (m.flatMap cx1)) (hsl : ∀ x ∈ l, x.1.natAbs < 2 ^ 53 ∧ x.2.natAbs < 2 ^ 53) (hsm : ∀ x ∈ m, x.1.natAbs < 2 ^ 53 ∧ x.2.natAbs < 2 ^ 53) :
    Calls Try.prog 55 #[.slice A l.length c, .slice B m.length d] w fun e w' => e = .returned (.bool (decide (l = m))) ∧ Fr No w w' := by
  have h1 := hl.2.1
  have h2 := hm.2.1
  have HL := Lib.hid hl
  have HM := Lib.hid hm
  clear hl hm
  by_cases hlen : l.length = m.length
  · have HE := Lib.hid hlen
    go_enter Try.func55, Try.ntmps55
    go_wp2
    go_loopg [13] l.length (fun g i wr => ∃ k : Nat, k + g = l.length ∧ i = .int .i64 (k : Int) ∧ Hid (l.take k = m.take k) ∧ Fr No w wr)
    case atStart => exact ⟨0, by omega, rfl, (by show l.take 0 = m.take 0; simp), Fr.refl _ _⟩
    case round =>
      obtain ⟨k, hk, rfl, S, F⟩ := hrel
      by_cases hlt : k < l.length
      · have hlm : k < m.length := by have := HE.out; omega
        obtain ⟨ad, rfl, cx0⟩ := cx1_at (HL.out.no F) hlt
        obtain ⟨bd, rfl, cy0⟩ := cx1_at (HM.out.no F) hlm
        have i4 : (k : Int) < (m.length : Int) := by omega
        have i0 : (0 : Int) ≤ (k : Int) := by omega
        have tl := List.take_succ_eq_append_getElem hlt
        have tm := List.take_succ_eq_append_getElem hlm
        have hne : l[k] ≠ m[k] → l ≠ m := fun h e => h (by subst e; rfl)
        have sx := hsl _ (List.getElem_mem hlt); have sy := hsm _ (List.getElem_mem hlm)
        obtain ⟨⟨x, y⟩, hx⟩ : ∃ x, l[k] = x := ⟨_, rfl⟩
        obtain ⟨⟨x', y'⟩, hy⟩ : ∃ x, m[k] = x := ⟨_, rfl⟩
        rw [hx] at cx0 tl hne sx
        rw [hy] at cy0 tm hne sy
        unfold cxc at cx0 cy0
        simp only at cx0 cy0 sx sy
        have hn := neq_cx x y x' y' sx sy
        have TL := Lib.hid tl
        have TM := Lib.hid tm
        have HNE := Lib.hid hne
        clear tl tm hne hx hy
        by_cases he : (x, y) = (x', y')
        · rw [decide_eq_true he] at hn
          have S' : Hid (l.take (k + 1) = m.take (k + 1)) := by
            show l.take (k + 1) = m.take (k + 1)
            rw [TL.out, TM.out, S.out, he]
          simp only [Bool.not_true] at hn
          clear he
          go_wp2
          go_quiet (fail)
          go_wp2
          go_roundg (l.length - (k + 1))
          case measure => omega
          case rel => exact ⟨k + 1, by omega, by go_num, S', F.drewN _⟩
        · rw [decide_eq_false he] at hn
          have R : Hid (decide (l = m) = false) := decide_eq_false (HNE.out he)
          simp only [Bool.not_false] at hn
          clear he
          go_wp2
          go_quiet (fail)
          go_wp2
          go_ret
          exact ⟨by rw [R.out]; rfl, F.drewN _⟩
      · have R : Hid (decide (l = m) = true) := by
          show decide (l = m) = true
          rw [decide_eq_true_eq]
          have hs := S.out
          rw [List.take_of_length_le (by omega), List.take_of_length_le (by have := HE.out; omega)] at hs
          exact hs
        go_wp2
        go_ret
        exact ⟨by rw [R.out]; rfl, F⟩
  · have R : Hid (decide (l = m) = false) := by
      show decide (l = m) = false
      rw [decide_eq_false_iff_not]
      intro h
      exact hlen (by rw [h])
    have i0 : ¬ (l.length : Int) = (m.length : Int) := by omega
    go_enter Try.func55, Try.ntmps55
    go_wp2
    go_ret
    exact ⟨by rw [R.out]; rfl, Fr.refl _ _⟩

theorem rows_eq {M N : IL} : (M.map (fun x => x.2.2) = N.map (fun x => x.2.2)) ↔ M.length = N.length ∧ ∀ k, (h : k < M.length) → (h' : k < N.length) → M[k].2.2 = N[k].2.2 := by
  constructor
  · intro h
    refine ⟨by have := congrArg List.length h; simpa using this, fun k h1 h2 => ?_⟩
    have := congrArg (fun l => l[k]?) h
    simpa [List.getElem?_map, List.getElem?_eq_getElem h1, List.getElem?_eq_getElem h2] using this
  · rintro ⟨h1, h2⟩
    apply List.ext_getElem (by simpa using h1)
    intro i k1 k2
    rw [List.length_map] at k1 k2
    simpa using h2 i k1 k2

set_option maxRecDepth 20000 in
set_option maxHeartbeats 4000000 in
theorem slicesR_any {b b' : Nat} {A B : Option Addr} {c d : Nat} {M N : IL} {w : World} (hA : Rd2 b w A M) (hB : Rd2 b' w B N) :
    Calls Try.prog 57 #[.slice A M.length c, .slice B N.length d, .func (.func 58) #[] #[]] w fun e w' => e = .returned (.bool (decide (M.map (fun x => x.2.2) = N.map (fun x => x.2.2)))) ∧ Fr No w w' := by
  have hm := hA.row.rd.2.1
  have hm2 := hB.row.rd.2.1
  have HA := Lib.hid hA
  have HB := Lib.hid hB
  clear hA hB
  by_cases hlen : M.length = N.length
  · have HL := Lib.hid hlen
    have hR : ∀ k, k ≤ M.length → (∀ j, j < k → (M.getD j (none, 0, [])).2.2 = (N.getD j (none, 0, [])).2.2) → k = M.length → M.map (fun x => x.2.2) = N.map (fun x => x.2.2) := by
      intro k _ h e
      subst e
      refine rows_eq.2 ⟨hlen, fun j h1 h2 => ?_⟩
      have := h j h1
      simpa [List.getD_eq_getElem?_getD, h1, h2] using this
    have HR := Lib.hid hR
    obtain ⟨n, hn⟩ : ∃ n, M.length = n := ⟨_, rfl⟩
    have HN := Lib.hid hn
    rw [← hlen, hn]
    rw [hn] at hm
    clear hR hlen hn hm2
    go_enter Try.func57, Try.ntmps57
    go_wp2
    go_loopg [17] n (fun gk i wr => ∃ k : Nat, k + gk = n ∧ i = .int .i64 (k : Int) ∧ Hid (∀ j, j < k → (M.getD j (none, 0, [])).2.2 = (N.getD j (none, 0, [])).2.2) ∧ Hid (Fr No w wr))
    case atStart => exact ⟨0, by omega, rfl, (by show ∀ j, _; intro j h; omega), Fr.refl _ _⟩
    case round =>
      obtain ⟨k, hk, rfl, S, F⟩ := hrel
      by_cases hkn : k < n
      · have hlt : k < M.length := by rw [HN.out]; exact hkn
        have hkN : k < N.length := by rw [← HL.out]; exact hlt
        obtain ⟨ad, rfl, cx, rx, _⟩ := ilv_at (HA.out.fr F.out (fun _ _ k => k)) hlt
        obtain ⟨bd, rfl, cy, ry, _⟩ := ilv_at (HB.out.fr F.out (fun _ _ k => k)) hkN
        have gx : M.getD k (none, 0, []) = M[k] := by simp [List.getD_eq_getElem?_getD, hlt]
        have gy : N.getD k (none, 0, []) = N[k] := by simp [List.getD_eq_getElem?_getD, hkN]
        have hne : M[k].2.2 ≠ N[k].2.2 → M.map (fun x => x.2.2) ≠ N.map (fun x => x.2.2) := fun h e => h ((rows_eq.1 e).2 k hlt hkN)
        obtain ⟨⟨x0, x1, x2⟩, hx⟩ : ∃ x, M[k] = x := ⟨_, rfl⟩
        obtain ⟨⟨y0, y1, y2⟩, hy⟩ : ∃ y, N[k] = y := ⟨_, rfl⟩
        rw [hx] at cx rx gx hne
        rw [hy] at cy ry gy hne
        simp only at cx rx cy ry hne
        have i4 : (k : Int) < (n : Int) := by omega
        have i0 : (0 : Int) ≤ (k : Int) := by omega
        have HC := Lib.hid (slicesInts_any (c := x1) (d := y1) rx ry)
        have GX := Lib.hid gx
        have GY := Lib.hid gy
        have HNE := Lib.hid hne
        clear hx hy rx ry gx gy hne
        by_cases he : x2 = y2
        · have HE := Lib.hid he
          rw [decide_eq_true he] at HC
          clear he
          go_wp2_with fail
          refine HC.out.mono ?_
          rintro e wa ⟨rfl, Fa⟩
          have F2 := Lib.hid (F.out.trans Fa (fun _ k => k.elim))
          have S' : Hid (∀ j, j < k + 1 → (M.getD j (none, 0, [])).2.2 = (N.getD j (none, 0, [])).2.2) := by
            show ∀ j, _
            intro j hj
            by_cases e : j = k
            · subst e; rw [GX.out, GY.out]; exact HE.out
            · exact S.out j (by omega)
          go_wp2
          go_roundg (n - (k + 1))
          case measure => omega
          case rel => exact ⟨k + 1, by omega, by go_num, S', F2⟩
        · have R : Hid (decide (M.map (fun x => x.2.2) = N.map (fun x => x.2.2)) = false) := decide_eq_false (HNE.out he)
          rw [decide_eq_false he] at HC
          clear he
          go_wp2_with fail
          refine HC.out.mono ?_
          rintro e wa ⟨rfl, Fa⟩
          have F2 := Lib.hid (F.out.trans Fa (fun _ k => k.elim))
          go_wp2
          go_ret
          exact ⟨by rw [R.out]; rfl, F2.out⟩
      · have hkM : k = M.length := by rw [HN.out]; omega
        have R : Hid (decide (M.map (fun x => x.2.2) = N.map (fun x => x.2.2)) = true) := decide_eq_true (HR.out k (by omega) S.out hkM)
        obtain rfl : k = n := by omega
        clear hkM
        go_wp2
        go_ret
        exact ⟨by rw [R.out]; rfl, F.out⟩
  · have R : Hid (decide (M.map (fun x => x.2.2) = N.map (fun x => x.2.2)) = false) := decide_eq_false fun h => hlen (rows_eq.1 h).1
    have i0 : ¬ (M.length : Int) = (N.length : Int) := by omega
    go_enter Try.func57, Try.ntmps57
    go_wp2
    go_ret
    exact ⟨by rw [R.out]; rfl, Fr.refl _ _⟩

end Go.Proofs.Ytfnlimcgoeknjaa
