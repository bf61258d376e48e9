import Derived.Test.YtfnlimcgoeknjaaLayM
import Derived.Test.YtfnlimcgoeknjaaSameI
import Derived.Deep.QuietTactic
import Derived.BigQuiet
namespace Go.Proofs.Ytfnlimcgoeknjaa
open Go.RowKit Go Fl

theorem add_next (ad : Addr) (n i : Nat) : ad.add (n + (i + 1)) = ⟨(ad.add n).block, (ad.add n).off + (i + 1), none⟩ := by
  unfold Addr.add
  rw [if_neg (by omega)]
  split <;> simp_all
  omega
theorem cx1_at {w : World} {A : Option Addr} {l : List (Int × Int)} (h : RdK w A 1 l.length (l.flatMap cx1)) {i : Nat} (hi : i < l.length) :
    ∃ ad, A = some ad ∧ w.cell? (ad.add i) = some (cxc l[i]) := by
  obtain ⟨ad, e, hc⟩ := h.2.2 i (by omega)
  refine ⟨ad, e, ?_⟩
  have := flat_getD cx1 1 cx1_len l i 0 hi (by omega)
  rw [Nat.mul_one, Nat.add_zero] at this
  rw [hc, this]
  rfl
theorem sei_at {w : World} {A : Option Addr} {l : List (Int × Int × Int)} (h : RdK w A 3 l.length (l.flatMap sei)) {i : Nat} (hi : i < l.length) :
    ∃ ad, A = some ad ∧ w.cell? (ad.add (i * 3)) = some (.int .i64 l[i].1) ∧ w.cell? ⟨(ad.add (i * 3)).block, (ad.add (i * 3)).off + 1, none⟩ = some (.int .i64 l[i].2.1) ∧ w.cell? ⟨(ad.add (i * 3)).block, (ad.add (i * 3)).off + 2, none⟩ = some (.int .i64 l[i].2.2) := by
  have hc : ∀ r, r < 3 → ∃ ad, A = some ad ∧ w.cell? (ad.add (i * 3 + r)) = some ((sei l[i]).getD r undef) := by
    intro r hr
    obtain ⟨ad, e, hcell⟩ := h.2.2 (i * 3 + r) (by omega)
    exact ⟨ad, e, by rw [hcell, flat_getD sei 3 (fun _ => rfl) l i r hi hr]⟩
  obtain ⟨ad, rfl, c0⟩ := hc 0 (by omega)
  obtain ⟨_, e1, c1⟩ := hc 1 (by omega)
  cases e1
  obtain ⟨_, e2, c2⟩ := hc 2 (by omega)
  cases e2
  rw [add_next ad (i * 3) 0] at c1
  rw [add_next ad (i * 3) 1] at c2
  exact ⟨ad, rfl, c0, c1, c2⟩
theorem poi_at {w : World} {A : Option Addr} {l : List (Int × Int × Int × Int)} (h : RdK w A 4 l.length (l.flatMap poi)) {i : Nat} (hi : i < l.length) :
    ∃ ad, A = some ad ∧ w.cell? (ad.add (i * 4)) = some (.int .i64 l[i].1) ∧ w.cell? ⟨(ad.add (i * 4)).block, (ad.add (i * 4)).off + 1, none⟩ = some (.int .i64 l[i].2.1) ∧ w.cell? ⟨(ad.add (i * 4)).block, (ad.add (i * 4)).off + 2, none⟩ = some (.int .i64 l[i].2.2.1) ∧ w.cell? ⟨(ad.add (i * 4)).block, (ad.add (i * 4)).off + 3, none⟩ = some (.int .i64 l[i].2.2.2) := by
  have hc : ∀ r, r < 4 → ∃ ad, A = some ad ∧ w.cell? (ad.add (i * 4 + r)) = some ((poi l[i]).getD r undef) := by
    intro r hr
    obtain ⟨ad, e, hcell⟩ := h.2.2 (i * 4 + r) (by omega)
    exact ⟨ad, e, by rw [hcell, flat_getD poi 4 (fun _ => rfl) l i r hi hr]⟩
  obtain ⟨ad, rfl, c0⟩ := hc 0 (by omega)
  obtain ⟨_, e1, c1⟩ := hc 1 (by omega)
  cases e1
  obtain ⟨_, e2, c2⟩ := hc 2 (by omega)
  cases e2
  obtain ⟨_, e3, c3⟩ := hc 3 (by omega)
  cases e3
  rw [add_next ad (i * 4) 0] at c1
  rw [add_next ad (i * 4) 1] at c2
  rw [add_next ad (i * 4) 2] at c3
  exact ⟨ad, rfl, c0, c1, c2, c3⟩
theorem ilv_at {b : Nat} {w : World} {A : Option Addr} {M : IL} (h : Rd2 b w A M) {i : Nat} (hi : i < M.length) :
    ∃ ad, A = some ad ∧ w.cell? (ad.add i) = some (.slice M[i].1 M[i].2.2.length M[i].2.1) ∧ Rd w M[i].1 (ints .i64 M[i].2.2) ∧ (M[i].1 = none → M[i].2.1 = 0) := by
  obtain ⟨ad, e, hc⟩ := h.row.rd.2.2 i (by omega)
  refine ⟨ad, e, ?_, (h.each _ (List.getElem_mem hi)).1, (h.each _ (List.getElem_mem hi)).2.2⟩
  rw [hc]
  simp [ilv, List.getD_eq_getElem?_getD, List.getElem?_eq_getElem hi]

set_option maxRecDepth 20000 in
set_option maxHeartbeats 4000000 in
/-- Lists of lists that hold the same numbers are alike. -/
theorem refLists_true {b b' : Nat} {A B : Option Addr} {c d : Nat} {M N : IL} {w : World} (hA : Rd2 b w A M) (hB : Rd2 b' w B N) (he : M.map (fun x => x.2.2) = N.map (fun x => x.2.2)) :
    Calls Try.prog 54 #[.slice A M.length c, .slice B N.length d] w fun e w' => e = .returned (.bool true) ∧ Fr No w w' := by
  have hl : N.length = M.length := by have := congrArg List.length he; simpa using this.symm
  have hm := hA.row.rd.2.1
  have HA := Lib.hid hA
  have HB := Lib.hid hB
  have HE := Lib.hid he
  have HL := Lib.hid hl
  rw [hl]
  obtain ⟨n, hn⟩ : ∃ n, M.length = n := ⟨_, rfl⟩
  have HN := Lib.hid hn
  rw [hn] at hm
  rw [hn]
  clear hA hB he hl hn
  go_enter Try.func54, Try.ntmps54
  go_wp2
  go_loopg [5] n (fun gk i wr => ∃ k : Nat, k + gk = n ∧ i = .int .i64 (k : Int) ∧ Hid (Fr No w wr))
  case atStart => exact ⟨0, by omega, rfl, Fr.refl _ _⟩
  case round =>
    obtain ⟨k, hk, rfl, F⟩ := hrel
    by_cases hlt : k < n
    · have hkM : k < M.length := by rw [HN.out]; exact hlt
      have hkN : k < N.length := by rw [HL.out, HN.out]; exact hlt
      obtain ⟨ad, rfl, cx, rx, _⟩ := ilv_at (HA.out.fr F.out (fun _ _ k => k)) hkM
      obtain ⟨bd, rfl, cy, ry, _⟩ := ilv_at (HB.out.fr F.out (fun _ _ k => k)) hkN
      have hxy : M[k].2.2 = N[k].2.2 := by
        have := congrArg (fun l => l[k]?) HE.out
        simpa [List.getElem?_map, List.getElem?_eq_getElem hkM, List.getElem?_eq_getElem hkN] using this
      obtain ⟨⟨x0, x1, x2⟩, hx⟩ : ∃ x, M[k] = x := ⟨_, rfl⟩
      obtain ⟨⟨y0, y1, y2⟩, hy⟩ : ∃ y, N[k] = y := ⟨_, rfl⟩
      rw [hx] at cx rx hxy
      rw [hy] at cy ry hxy
      simp only at cx rx cy ry hxy
      subst hxy
      have i4 : (k : Int) < (n : Int) := by omega
      have i0 : (0 : Int) ≤ (k : Int) := by omega
      have hc : Hid (∀ W, Fr No wr W → Calls Try.prog 79 #[.slice x0 x2.length x1, .slice y0 x2.length y1] W fun e w' => e = .returned (.bool true) ∧ Fr No wr w') := by
        show ∀ W, _
        intro W hW
        refine (refInts_any (rx.no hW) (ry.no hW)).mono fun _ _ ⟨h1, h2⟩ => ⟨?_, hW.trans h2 (fun _ k => k.elim)⟩
        rw [h1]
        simp
      have KC : Hid (∀ W, Fr No wr W → W.cell? (ad.add k) = some (.slice x0 x2.length x1) ∧ W.cell? (bd.add k) = some (.slice y0 x2.length y1)) := fun W hW => ⟨hW.cell cx (fun k => k), hW.cell cy (fun k => k)⟩
      have FD := (Fr.refl No wr).drew
      clear hx hy rx ry
      go_wp2
      go_region_held3 (fun W => W.cell? (ad.add k) = some (.slice x0 x2.length x1) ∧ W.cell? (bd.add k) = some (.slice y0 x2.length y1))
        (exact KC.out _ (by assumption))
        ((go_at_call 79; with_reducible refine (hc.out _ ?_).mono ?_; assumption; rintro e wa ⟨rfl, Fa⟩))
      all_goals
        have F2 := Lib.hid (F.out.trans (T := No) (by assumption : Fr No wr _) (fun _ k => k.elim))
        go_wp2
        go_roundg (n - (k + 1))
        case measure => omega
        case rel => exact ⟨k + 1, by omega, by go_num, F2⟩
    · obtain rfl : k = n := by omega
      go_wp2
      go_ret
      exact ⟨rfl, F.out⟩
end Go.Proofs.Ytfnlimcgoeknjaa

namespace Go.Proofs.Ytfnlimcgoeknjaa
open Go.RowKit Go Fl

theorem tens {w : World} {g : Nat} {t : TypeId} {c0 c1 c2 c3 c4 c5 c6 c7 c8 c9 : Value} (h : w.heap[g]? = some (.cells #[c0, c1, c2, c3, c4, c5, c6, c7, c8, c9] t (0, 0))) :
    w.cell? ⟨g, 0, none⟩ = some c0 ∧ w.cell? ⟨g, 1, none⟩ = some c1 ∧ w.cell? ⟨g, 2, none⟩ = some c2 ∧ w.cell? ⟨g, 3, none⟩ = some c3 ∧ w.cell? ⟨g, 4, none⟩ = some c4 ∧
    w.cell? ⟨g, 5, none⟩ = some c5 ∧ w.cell? ⟨g, 6, none⟩ = some c6 ∧ w.cell? ⟨g, 7, none⟩ = some c7 ∧ w.cell? ⟨g, 8, none⟩ = some c8 ∧ w.cell? ⟨g, 9, none⟩ = some c9 := by
  refine ⟨?_, ?_, ?_, ?_, ?_, ?_, ?_, ?_, ?_, ?_⟩ <;> (rw [blk_cell h]; rfl)
def Sized (L : Lay) : Prop := ∀ x ∈ L.no, x.1.natAbs < 2 ^ 53 ∧ x.2.natAbs < 2 ^ 53

set_option maxRecDepth 100000 in
set_option maxHeartbeats 8000000 in
/-- Two layouts that hold the same are alike. -/
theorem rlsame_true {b b' : Nat} {L : Lay} {C D : Array Value} {w : World} (hC : LayV b w L C) (hD : LayV b' w L D) (hS : Sized L) :
    Calls Try.prog 19 #[.agg C, .agg D] w fun e w' => e = .returned (.bool true) ∧ Fr No w w' := by
  obtain ⟨An, cn, As, cs, Ap, cp, Aq, cq, Ar, cr, Mp, Mr, rfl, h1, h2, ⟨h3, h4⟩, h5, h6, h7⟩ := hC
  obtain ⟨Bn, dn, Bs, ds, Bp, dp, Bq, dq, Br, dr, Np, Nr, rfl, k1, k2, ⟨k3, k4⟩, k5, k6, k7⟩ := hD
  have lp : Np.length = Mp.length := by have := congrArg List.length (h4.trans k4.symm); simpa using this.symm
  have lr : Nr.length = Mr.length := by have := congrArg List.length (h7.trans k7.symm); simpa using this.symm
  have mn := h1.rd.2.1
  have ms := h2.rd.2.1
  have mq := h5.rd.2.1
  rw [lp, lr]
  unfold lcs
  obtain ⟨W1, hW1⟩ : ∃ W, w.alloc (.cells #[.slice An L.no.length cn, .slice As L.se.length cs, .slice Ap Mp.length cp, .slice Aq L.po.length cq, .slice Ar Mr.length cr, .int .i64 L.sp, .int .i64 L.mu, .int .i64 L.wa, .int .i64 L.ca, .int .i64 L.st] 38) = W := ⟨_, rfl⟩
  have f1 : Fr No w W1 := by rw [← hW1]; exact (Fr.refl No w).alloc _
  have b1 : W1.heap[w.heap.size]? = some (.cells #[.slice An L.no.length cn, .slice As L.se.length cs, .slice Ap Mp.length cp, .slice Aq L.po.length cq, .slice Ar Mr.length cr, .int .i64 L.sp, .int .i64 L.mu, .int .i64 L.wa, .int .i64 L.ca, .int .i64 L.st] 38 (0, 0)) := by rw [← hW1]; exact blk_new _ _
  obtain ⟨W2, hW2⟩ : ∃ W, W1.alloc (.cells #[.slice Bn L.no.length dn, .slice Bs L.se.length ds, .slice Bp Mp.length dp, .slice Bq L.po.length dq, .slice Br Mr.length dr, .int .i64 L.sp, .int .i64 L.mu, .int .i64 L.wa, .int .i64 L.ca, .int .i64 L.st] 38) = W := ⟨_, rfl⟩
  have f2 : Fr No W1 W2 := by rw [← hW2]; exact (Fr.refl No W1).alloc _
  have b2 : W2.heap[W1.heap.size]? = some (.cells #[.slice Bn L.no.length dn, .slice Bs L.se.length ds, .slice Bp Mp.length dp, .slice Bq L.po.length dq, .slice Br Mr.length dr, .int .i64 L.sp, .int .i64 L.mu, .int .i64 L.wa, .int .i64 L.ca, .int .i64 L.st] 38 (0, 0)) := by rw [← hW2]; exact blk_new _ _
  have f12 := f1.trans f2 (fun _ k => k.elim)
  have b1' := f2.heap b1 (fun k => k)
  have e1 : W1.heap.size = w.heap.size + 1 := by rw [← hW1]; simp
  obtain ⟨g, hg⟩ : ∃ g, w.heap.size = g := ⟨_, rfl⟩
  rw [hg] at e1 b1'
  rw [e1] at b2
  have HB1 := Lib.hid b1'
  have HB2 := Lib.hid b2
  have HF := Lib.hid f12
  have H1 := Lib.hid (h1.rd.no f12)
  have H2 := Lib.hid (h2.rd.no f12)
  have H5 := Lib.hid (h5.rd.no f12)
  have K1 := Lib.hid (k1.rd.no f12)
  have K2 := Lib.hid (k2.rd.no f12)
  have K5 := Lib.hid (k5.rd.no f12)
  have LP : Hid (∀ W, Fr No W2 W → Calls Try.prog 54 #[.slice Ap Mp.length cp, .slice Bp Mp.length dp] W fun e w' => e = .returned (.bool true) ∧ Fr No W2 w') := by
    show ∀ W, _
    intro W hW
    have := refLists_true (c := cp) (d := dp) (h3.fr (f12.trans hW (fun _ k => k.elim)) (fun _ _ k => k)) (k3.fr (f12.trans hW (fun _ k => k.elim)) (fun _ _ k => k)) (h4.trans k4.symm)
    rw [lp] at this
    exact this.mono fun _ _ ⟨h1, h2⟩ => ⟨h1, hW.trans h2 (fun _ k => k.elim)⟩
  have LR : Hid (∀ W, Fr No W2 W → Calls Try.prog 54 #[.slice Ar Mr.length cr, .slice Br Mr.length dr] W fun e w' => e = .returned (.bool true) ∧ Fr No W2 w') := by
    show ∀ W, _
    intro W hW
    have := refLists_true (c := cr) (d := dr) (h6.fr (f12.trans hW (fun _ k => k.elim)) (fun _ _ k => k)) (k6.fr (f12.trans hW (fun _ k => k.elim)) (fun _ _ k => k)) (h7.trans k7.symm)
    rw [lr] at this
    exact this.mono fun _ _ ⟨h1, h2⟩ => ⟨h1, hW.trans h2 (fun _ k => k.elim)⟩
  have HS := Lib.hid hS
  obtain ⟨nn, hnn⟩ : ∃ n, L.no.length = n := ⟨_, rfl⟩
  obtain ⟨ns, hns⟩ : ∃ n, L.se.length = n := ⟨_, rfl⟩
  obtain ⟨nqo, hnq⟩ : ∃ n, L.po.length = n := ⟨_, rfl⟩
  rw [hnn] at hW1 hW2 HB1 HB2 mn ⊢
  rw [hns] at hW1 hW2 HB1 HB2 ms ⊢
  rw [hnq] at hW1 hW2 HB1 HB2 mq ⊢
  have HNN := Lib.hid hnn
  have HNS := Lib.hid hns
  have HNQ := Lib.hid hnq
  obtain ⟨c0, c1, c2, c3, c4, _, _, _, _, _⟩ := tens HB1.out
  obtain ⟨d0, d1, d2, d3, d4, _, _, _, _, _⟩ := tens HB2.out
  clear h1 h2 h3 h4 h5 h6 h7 k1 k2 k3 k4 k5 k6 k7 f1 f2 f12 b1 b1' b2 lp lr hS hnn hns hnq
  go_enter Try.func19, Try.ntmps19
  go_wp2_with fail
  refine (LP.out _ (Fr.refl _ _)).mono ?_
  rintro e w3 ⟨rfl, F3⟩
  have c3' := (tens (F3.heap HB1.out (fun k => k))).2.2.2.2.1
  have d3' := (tens (F3.heap HB2.out (fun k => k))).2.2.2.2.1
  clear c0 c1 c2 c3 c4 d0 d1 d2 d3 d4
  go_wp2_with fail
  refine (LR.out _ F3).mono ?_
  rintro e w4 ⟨rfl, F4⟩
  have HF4 := Lib.hid F4
  clear c3' d3' F3 F4 LP LR
  go_wp2
  go_loopg [5] nn (fun gk i wr => ∃ k : Nat, k + gk = nn ∧ i = .int .i64 (k : Int) ∧ Hid (Fr No W2 wr))
  case atStart => exact ⟨0, by omega, rfl, HF4⟩
  case round =>
    obtain ⟨k, hk, rfl, FW⟩ := hrel
    obtain ⟨c0, c1, c2, c3, c4, _, _, _, _, _⟩ := tens (FW.out.heap HB1.out (fun k => k))
    obtain ⟨d0, d1, d2, d3, d4, _, _, _, _, _⟩ := tens (FW.out.heap HB2.out (fun k => k))
    by_cases hlt : k < nn
    · have hkM : k < L.no.length := by rw [HNN.out]; exact hlt
      obtain ⟨ad, rfl, cx⟩ := cx1_at (H1.out.no FW.out) hkM
      obtain ⟨bd, rfl, cy⟩ := cx1_at (K1.out.no FW.out) hkM
      have sz := HS.out _ (List.getElem_mem hkM)
      obtain ⟨⟨x, y⟩, hx⟩ : ∃ x, L.no[k] = x := ⟨_, rfl⟩
      rw [hx] at cx cy sz
      unfold cxc at cx cy
      simp only at cx cy sz
      have o1 : (FloatKind.f64.format.order (F x) (F x) == some Ordering.eq) = true := by rw [ord_eq (isF x) (isF x) sz.1 sz.1]; simp
      have o2 : (FloatKind.f64.format.order (F y) (F y) == some Ordering.eq) = true := by rw [ord_eq (isF y) (isF y) sz.2 sz.2]; simp
      have i4 : (k : Int) < (nn : Int) := by omega
      have i0 : (0 : Int) ≤ (k : Int) := by omega
      clear hx sz c1 c2 c3 c4 d1 d2 d3 d4
      go_wp2
      go_quiet (fail)
      go_wp2
      go_roundg (nn - (k + 1))
      case measure => omega
      case rel => exact ⟨k + 1, by omega, by go_num, Lib.hid (FW.out.drewN _)⟩
    · obtain rfl : k = nn := by omega
      clear c2 c3 c4 d2 d3 d4 HF4
      go_wp2
      go_loopg [6] ns (fun gk i wr => ∃ k : Nat, k + gk = ns ∧ i = .int .i64 (k : Int) ∧ Hid (Fr No W2 wr))
      case atStart => exact ⟨0, by omega, rfl, FW⟩
      case round =>
        obtain ⟨k, hk, rfl, FV⟩ := hrel
        clear c0 c1 d0 d1 FW
        obtain ⟨c0, c1, c2, c3, c4, _, _, _, _, _⟩ := tens (FV.out.heap HB1.out (fun k => k))
        obtain ⟨d0, d1, d2, d3, d4, _, _, _, _, _⟩ := tens (FV.out.heap HB2.out (fun k => k))
        by_cases hlt : k < ns
        · have hkM : k < L.se.length := by rw [HNS.out]; exact hlt
          obtain ⟨ad, rfl, cx0, cx1, cx2⟩ := sei_at (H2.out.no FV.out) hkM
          obtain ⟨bd, rfl, cy0, cy1, cy2⟩ := sei_at (K2.out.no FV.out) hkM
          obtain ⟨⟨x, y, z⟩, hx⟩ : ∃ x, L.se[k] = x := ⟨_, rfl⟩
          rw [hx] at cx0 cx1 cx2 cy0 cy1 cy2
          simp only at cx0 cx1 cx2 cy0 cy1 cy2
          have i4 : (k : Int) < (ns : Int) := by omega
          have i0 : (0 : Int) ≤ (k : Int) := by omega
          clear hx c0 c2 c3 c4 d0 d2 d3 d4
          go_wp2
          go_quiet (fail)
          go_wp2
          go_roundg (ns - (k + 1))
          case measure => omega
          case rel => exact ⟨k + 1, by omega, by go_num, Lib.hid (FV.out.drewN _)⟩
        · obtain rfl : k = ns := by omega
          clear c0 c2 c4 d0 d2 d4
          go_wp2
          go_loopg [7] nqo (fun gk i wr => ∃ k : Nat, k + gk = nqo ∧ i = .int .i64 (k : Int) ∧ Hid (Fr No W2 wr))
          case atStart => exact ⟨0, by omega, rfl, FV⟩
          case round =>
            obtain ⟨k, hk, rfl, FU⟩ := hrel
            clear c1 c3 d1 d3 FV
            obtain ⟨c0, c1, c2, c3, c4, c5, c6, c7, c8, c9⟩ := tens (FU.out.heap HB1.out (fun k => k))
            obtain ⟨d0, d1, d2, d3, d4, d5, d6, d7, d8, d9⟩ := tens (FU.out.heap HB2.out (fun k => k))
            by_cases hlt : k < nqo
            · have hkM : k < L.po.length := by rw [HNQ.out]; exact hlt
              obtain ⟨ad, rfl, cx0, cx1, cx2, cx3⟩ := poi_at (H5.out.no FU.out) hkM
              obtain ⟨bd, rfl, cy0, cy1, cy2, cy3⟩ := poi_at (K5.out.no FU.out) hkM
              obtain ⟨⟨x, y, z, u⟩, hx⟩ : ∃ x, L.po[k] = x := ⟨_, rfl⟩
              rw [hx] at cx0 cx1 cx2 cx3 cy0 cy1 cy2 cy3
              simp only at cx0 cx1 cx2 cx3 cy0 cy1 cy2 cy3
              have i4 : (k : Int) < (nqo : Int) := by omega
              have i0 : (0 : Int) ≤ (k : Int) := by omega
              clear hx c0 c1 c2 c4 c5 c6 c7 c8 c9 d0 d1 d2 d4 d5 d6 d7 d8 d9
              go_wp2
              go_quiet (fail)
              go_wp2
              go_roundg (nqo - (k + 1))
              case measure => omega
              case rel => exact ⟨k + 1, by omega, by go_num, Lib.hid (FU.out.drewN _)⟩
            · obtain rfl : k = nqo := by omega
              clear c0 c1 c2 c4 d0 d1 d2 d4
              go_wp2
              go_ret
              exact ⟨rfl, HF.out.trans FU.out (fun _ k => k.elim)⟩
end Go.Proofs.Ytfnlimcgoeknjaa
