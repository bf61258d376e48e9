import Derived.Test.YtfnlimcgoeknjaaLayM
import Derived.Test.YtfnlimcgoeknjaaSameI
namespace Go.Proofs.Ytfnlimcgoeknjaa
open Go.RowKit Go Fl

theorem add_next (ad : Addr) (n i : Nat) : ad.add (n + (i + 1)) = ⟨(ad.add n).block, (ad.add n).off + (i + 1), none⟩ := by
  unfold Addr.add
  rw [if_neg (by omega)]
  split <;> simp_all
  omega
theorem cx1_at {w : World} {A : Option Addr} {l : List (Int × Int)} (h : RdK w A 1 l.length (l.flatMap cx1)) {i : Nat} (hi : i < l.length) :
    ∃ ad, A = some ad ∧ w.cell? (ad.add i) = some (cxc l[i]) := by
  obtain ⟨ad, e, hc⟩ := h.2.2 i (by omega)
  refine ⟨ad, e, ?_⟩
  have := flat_getD cx1 1 cx1_len l i 0 hi (by omega)
  rw [Nat.mul_one, Nat.add_zero] at this
  rw [hc, this]
  rfl
theorem sei_at {w : World} {A : Option Addr} {l : List (Int × Int × Int)} (h : RdK w A 3 l.length (l.flatMap sei)) {i : Nat} (hi : i < l.length) :
    ∃ ad, A = some ad ∧ w.cell? (ad.add (i * 3)) = some (.int .i64 l[i].1) ∧ w.cell? ⟨(ad.add (i * 3)).block, (ad.add (i * 3)).off + 1, none⟩ = some (.int .i64 l[i].2.1) ∧ w.cell? ⟨(ad.add (i * 3)).block, (ad.add (i * 3)).off + 2, none⟩ = some (.int .i64 l[i].2.2) := by
  have hc : ∀ r, r < 3 → ∃ ad, A = some ad ∧ w.cell? (ad.add (i * 3 + r)) = some ((sei l[i]).getD r undef) := by
    intro r hr
    obtain ⟨ad, e, hcell⟩ := h.2.2 (i * 3 + r) (by omega)
    exact ⟨ad, e, by rw [hcell, flat_getD sei 3 (fun _ => rfl) l i r hi hr]⟩
  obtain ⟨ad, rfl, c0⟩ := hc 0 (by omega)
  obtain ⟨_, e1, c1⟩ := hc 1 (by omega)
  cases e1
  obtain ⟨_, e2, c2⟩ := hc 2 (by omega)
  cases e2
  rw [add_next ad (i * 3) 0] at c1
  rw [add_next ad (i * 3) 1] at c2
  exact ⟨ad, rfl, c0, c1, c2⟩
theorem poi_at {w : World} {A : Option Addr} {l : List (Int × Int × Int × Int)} (h : RdK w A 4 l.length (l.flatMap poi)) {i : Nat} (hi : i < l.length) :
    ∃ ad, A = some ad ∧ w.cell? (ad.add (i * 4)) = some (.int .i64 l[i].1) ∧ w.cell? ⟨(ad.add (i * 4)).block, (ad.add (i * 4)).off + 1, none⟩ = some (.int .i64 l[i].2.1) ∧ w.cell? ⟨(ad.add (i * 4)).block, (ad.add (i * 4)).off + 2, none⟩ = some (.int .i64 l[i].2.2.1) ∧ w.cell? ⟨(ad.add (i * 4)).block, (ad.add (i * 4)).off + 3, none⟩ = some (.int .i64 l[i].2.2.2) := by
  have hc : ∀ r, r < 4 → ∃ ad, A = some ad ∧ w.cell? (ad.add (i * 4 + r)) = some ((poi l[i]).getD r undef) := by
    intro r hr
    obtain ⟨ad, e, hcell⟩ := h.2.2 (i * 4 + r) (by omega)
    exact ⟨ad, e, by rw [hcell, flat_getD poi 4 (fun _ => rfl) l i r hi hr]⟩
  obtain ⟨ad, rfl, c0⟩ := hc 0 (by omega)
  obtain ⟨_, e1, c1⟩ := hc 1 (by omega)
  cases e1
  obtain ⟨_, e2, c2⟩ := hc 2 (by omega)
  cases e2
  obtain ⟨_, e3, c3⟩ := hc 3 (by omega)
  cases e3
  rw [add_next ad (i * 4) 0] at c1
  rw [add_next ad (i * 4) 1] at c2
  rw [add_next ad (i * 4) 2] at c3
  exact ⟨ad, rfl, c0, c1, c2, c3⟩
theorem ilv_at {b : Nat} {w : World} {A : Option Addr} {M : IL} (h : Rd2 b w A M) {i : Nat} (hi : i < M.length) :
    ∃ ad, A = some ad ∧ w.cell? (ad.add i) = some (.slice M[i].1 M[i].2.2.length M[i].2.1) ∧ Rd w M[i].1 (ints .i64 M[i].2.2) ∧ (M[i].1 = none → M[i].2.1 = 0) := by
  obtain ⟨ad, e, hc⟩ := h.row.rd.2.2 i (by omega)
  refine ⟨ad, e, ?_, (h.each _ (List.getElem_mem hi)).1, (h.each _ (List.getElem_mem hi)).2.2⟩
  rw [hc]
  simp [ilv, List.getD_eq_getElem?_getD, List.getElem?_eq_getElem hi]

set_option maxRecDepth 20000 in
set_option maxHeartbeats 4000000 in
/-- Lists of lists that hold the same numbers are alike. -/
theorem refLists_true {b b' : Nat} {A B : Option Addr} {c d : Nat} {M N : IL} {w : World} (hA : Rd2 b w A M) (hB : Rd2 b' w B N) (he : M.map (fun x => x.2.2) = N.map (fun x => x.2.2)) :
    Calls Try.prog 54 #[.slice A M.length c, .slice B N.length d] w fun e w' => e = .returned (.bool true) ∧ Fr No w w' := by
  have hl : N.length = M.length := by have := congrArg List.length he; simpa using this.symm
  have hm := hA.row.rd.2.1
  have HA := Lib.hid hA
  have HB := Lib.hid hB
  have HE := Lib.hid he
  have HL := Lib.hid hl
  rw [hl]
  obtain ⟨n, hn⟩ : ∃ n, M.length = n := ⟨_, rfl⟩
  have HN := Lib.hid hn
  rw [hn] at hm
  rw [hn]
  clear hA hB he hl hn
  go_enter Try.func54, Try.ntmps54
  go_wp2
  go_loopg [5] n (fun gk i wr => ∃ k : Nat, k + gk = n ∧ i = .int .i64 (k : Int) ∧ Hid (Fr No w wr))
  case atStart => exact ⟨0, by omega, rfl, Fr.refl _ _⟩
  case round =>
    obtain ⟨k, hk, rfl, F⟩ := hrel
    by_cases hlt : k < n
    · have hkM : k < M.length := by rw [HN.out]; exact hlt
      have hkN : k < N.length := by rw [HL.out, HN.out]; exact hlt
      obtain ⟨ad, rfl, cx, rx, _⟩ := ilv_at (HA.out.fr F.out (fun _ _ k => k)) hkM
      obtain ⟨bd, rfl, cy, ry, _⟩ := ilv_at (HB.out.fr F.out (fun _ _ k => k)) hkN
      have hxy : M[k].2.2 = N[k].2.2 := by
        have := congrArg (fun l => l[k]?) HE.out
        simpa [List.getElem?_map, List.getElem?_eq_getElem hkM, List.getElem?_eq_getElem hkN] using this
      obtain ⟨⟨x0, x1, x2⟩, hx⟩ : ∃ x, M[k] = x := ⟨_, rfl⟩
      obtain ⟨⟨y0, y1, y2⟩, hy⟩ : ∃ y, N[k] = y := ⟨_, rfl⟩
      rw [hx] at cx rx hxy
      rw [hy] at cy ry hxy
      simp only at cx rx cy ry hxy
      subst hxy
      have i4 : (k : Int) < (n : Int) := by omega
      have i0 : (0 : Int) ≤ (k : Int) := by omega
      have hc : Hid (∀ W, Fr No wr W → Calls Try.prog 79 #[.slice x0 x2.length x1, .slice y0 x2.length y1] W fun e w' => e = .returned (.bool true) ∧ Fr No wr w') := by
        show ∀ W, _
        intro W hW
        refine (refInts_any (rx.no hW) (ry.no hW)).mono fun _ _ ⟨h1, h2⟩ => ⟨?_, hW.trans h2 (fun _ k => k.elim)⟩
        rw [h1]
        simp
      have KC : Hid (∀ W, Fr No wr W → W.cell? (ad.add k) = some (.slice x0 x2.length x1) ∧ W.cell? (bd.add k) = some (.slice y0 x2.length y1)) := fun W hW => ⟨hW.cell cx (fun k => k), hW.cell cy (fun k => k)⟩
      have FD := (Fr.refl No wr).drew
      clear hx hy rx ry
      go_wp2
      go_region_held3 (fun W => W.cell? (ad.add k) = some (.slice x0 x2.length x1) ∧ W.cell? (bd.add k) = some (.slice y0 x2.length y1))
        (exact KC.out _ (by assumption))
        ((go_at_call 79; with_reducible refine (hc.out _ ?_).mono ?_; assumption; rintro e wa ⟨rfl, Fa⟩))
      all_goals
        have F2 := Lib.hid (F.out.trans (T := No) (by assumption : Fr No wr _) (fun _ k => k.elim))
        go_wp2
        go_roundg (n - (k + 1))
        case measure => omega
        case rel => exact ⟨k + 1, by omega, by go_num, F2⟩
    · obtain rfl : k = n := by omega
      go_wp2
      go_ret
      exact ⟨rfl, F.out⟩
end Go.Proofs.Ytfnlimcgoeknjaa
