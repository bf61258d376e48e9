import Derived.Test.YtfnlimcgoeknjaaLSamW
import Derived.Deep.RegionHeld3
import Derived.Deep.QuietTactic
import Derived.BigQuiet
namespace Go.Proofs.Ytfnlimcgoeknjaa
open Go.RowKit Go Fl

set_option maxRecDepth 20000 in
set_option maxHeartbeats 4000000 in
theorem refLists_any {b b' : Nat} {A B : Option Addr} {c d : Nat} {M N : IL} {w : World} (hA : Rd2 b w A M) (hB : Rd2 b' w B N) :
    Calls Try.prog 54 #[.slice A M.length c, .slice B N.length d] w fun e w' => e = .returned (.bool (decide (M.map (fun x => x.2.2) = N.map (fun x => x.2.2)))) ∧ Fr No w w' := by
  have hm := hA.row.rd.2.1
  have hm2 := hB.row.rd.2.1
  have HA := Lib.hid hA
  have HB := Lib.hid hB
  clear hA hB
  by_cases hlen : M.length = N.length
  · have HL := Lib.hid hlen
    have hR : ∀ k, k ≤ M.length → (∀ j, j < k → (M.getD j (none, 0, [])).2.2 = (N.getD j (none, 0, [])).2.2) → k = M.length → M.map (fun x => x.2.2) = N.map (fun x => x.2.2) := by
      intro k _ h e
      subst e
      refine rows_eq.2 ⟨hlen, fun j h1 h2 => ?_⟩
      have := h j h1
      simpa [List.getD_eq_getElem?_getD, h1, h2] using this
    have HR := Lib.hid hR
    obtain ⟨n, hn⟩ : ∃ n, M.length = n := ⟨_, rfl⟩
    have HN := Lib.hid hn
    rw [← hlen, hn]
    rw [hn] at hm
    clear hR hlen hn hm2
    go_enter Try.func54, Try.ntmps54
    go_wp2
    go_loopg [5] n (fun gk i wr => ∃ k : Nat, k + gk = n ∧ i = .int .i64 (k : Int) ∧ Hid (∀ j, j < k → (M.getD j (none, 0, [])).2.2 = (N.getD j (none, 0, [])).2.2) ∧ Hid (Fr No w wr))
    case atStart => exact ⟨0, by omega, rfl, (by show ∀ j, _; intro j h; omega), Fr.refl _ _⟩
    case round =>
      obtain ⟨k, hk, rfl, S, F⟩ := hrel
      by_cases hkn : k < n
      · have hlt : k < M.length := by rw [HN.out]; exact hkn
        have hkN : k < N.length := by rw [← HL.out]; exact hlt
        obtain ⟨ad, rfl, cx, rx, _⟩ := ilv_at (HA.out.fr F.out (fun _ _ k => k)) hlt
        obtain ⟨bd, rfl, cy, ry, _⟩ := ilv_at (HB.out.fr F.out (fun _ _ k => k)) hkN
        have gx : M.getD k (none, 0, []) = M[k] := by simp [List.getD_eq_getElem?_getD, hlt]
        have gy : N.getD k (none, 0, []) = N[k] := by simp [List.getD_eq_getElem?_getD, hkN]
        have hne : M[k].2.2 ≠ N[k].2.2 → M.map (fun x => x.2.2) ≠ N.map (fun x => x.2.2) := fun h e => h ((rows_eq.1 e).2 k hlt hkN)
        obtain ⟨⟨x0, x1, x2⟩, hx⟩ : ∃ x, M[k] = x := ⟨_, rfl⟩
        obtain ⟨⟨y0, y1, y2⟩, hy⟩ : ∃ y, N[k] = y := ⟨_, rfl⟩
        rw [hx] at cx rx gx hne
        rw [hy] at cy ry gy hne
        simp only at cx rx cy ry hne
        have i4 : (k : Int) < (n : Int) := by omega
        have i0 : (0 : Int) ≤ (k : Int) := by omega
        obtain ⟨bb, hbb⟩ : ∃ b, decide (x2 = y2) = b := ⟨_, rfl⟩
        have hc : Hid (∀ W, Fr No wr W → Calls Try.prog 79 #[.slice x0 x2.length x1, .slice y0 y2.length y1] W fun e w' => e = .returned (.bool bb) ∧ Fr No wr w') := by
          show ∀ W, _
          intro W hW
          refine (refInts_any (rx.no hW) (ry.no hW)).mono fun _ _ ⟨h1, h2⟩ => ⟨?_, hW.trans h2 (fun _ k => k.elim)⟩
          rw [h1, hbb]
        have KC : Hid (∀ W, Fr No wr W → W.cell? (ad.add k) = some (.slice x0 x2.length x1) ∧ W.cell? (bd.add k) = some (.slice y0 y2.length y1)) := fun W hW => ⟨hW.cell cx (fun k => k), hW.cell cy (fun k => k)⟩
        have FD := (Fr.refl No wr).drew
        have GX := Lib.hid gx
        have GY := Lib.hid gy
        have HNE := Lib.hid hne
        have HBB := Lib.hid hbb
        clear hx hy rx ry gx gy hne hbb
        cases bb with
        | true =>
          have S' : Hid (∀ j, j < k + 1 → (M.getD j (none, 0, [])).2.2 = (N.getD j (none, 0, [])).2.2) := by
            show ∀ j, _
            intro j hj
            by_cases e : j = k
            · subst e; rw [GX.out, GY.out]; exact of_decide_eq_true HBB.out
            · exact S.out j (by omega)
          go_wp2
          go_region_held3 (fun W => W.cell? (ad.add k) = some (.slice x0 x2.length x1) ∧ W.cell? (bd.add k) = some (.slice y0 y2.length y1))
            (exact KC.out _ (by assumption))
            ((go_at_call 79; with_reducible refine (hc.out _ ?_).mono ?_; assumption; rintro e wa ⟨rfl, Fa⟩))
          all_goals
            have F2 := Lib.hid (F.out.trans (T := No) (by assumption : Fr No wr _) (fun _ k => k.elim))
            go_wp2
            go_roundg (n - (k + 1))
            case measure => omega
            case rel => exact ⟨k + 1, by omega, by go_num, S', F2⟩
        | false =>
          have R : Hid (decide (M.map (fun x => x.2.2) = N.map (fun x => x.2.2)) = false) := decide_eq_false (HNE.out (of_decide_eq_false HBB.out))
          go_wp2
          go_region_held3 (fun W => W.cell? (ad.add k) = some (.slice x0 x2.length x1) ∧ W.cell? (bd.add k) = some (.slice y0 y2.length y1))
            (exact KC.out _ (by assumption))
            ((go_at_call 79; with_reducible refine (hc.out _ ?_).mono ?_; assumption; rintro e wa ⟨rfl, Fa⟩))
          all_goals
            have F2 := Lib.hid (F.out.trans (T := No) (by assumption : Fr No wr _) (fun _ k => k.elim))
            go_wp2
            go_ret
            exact ⟨by rw [R.out]; rfl, F2.out⟩
      · have hkM : k = M.length := by rw [HN.out]; omega
        have R : Hid (decide (M.map (fun x => x.2.2) = N.map (fun x => x.2.2)) = true) := decide_eq_true (HR.out k (by omega) S.out hkM)
        obtain rfl : k = n := by omega
        clear hkM
        go_wp2
        go_ret
        exact ⟨by rw [R.out]; rfl, F.out⟩
  · have R : Hid (decide (M.map (fun x => x.2.2) = N.map (fun x => x.2.2)) = false) := decide_eq_false fun h => hlen (rows_eq.1 h).1
    have i0 : ¬ (M.length : Int) = (N.length : Int) := by omega
    go_enter Try.func54, Try.ntmps54
    go_wp2
    go_ret
    exact ⟨by rw [R.out]; rfl, Fr.refl _ _⟩


set_option maxRecDepth 100000 in
set_option maxHeartbeats 16000000 in
/-- The document's Same decides. -/
theorem rlsame_any {b b' : Nat} {L M : Lay} {C D : Array Value} {w : World} (hC : LayV b w L C) (hD : LayV b' w M D) (hS : Sized L) (hT : Sized M) :
    Calls Try.prog 19 #[.agg C, .agg D] w fun e w' => e = .returned (.bool (sameL L M)) ∧ Fr No w w' := by
  obtain ⟨An, cn, As, cs, Ap, cp, Aq, cq, Ar, cr, Mp, Mr, rfl, h1, h2, ⟨h3, h4⟩, h5, h6, h7⟩ := hC
  obtain ⟨Bn, dn, Bs, ds, Bp, dp, Bq, dq, Br, dr, Np, Nr, rfl, k1, k2, ⟨k3, k4⟩, k5, k6, k7⟩ := hD
  unfold lcs
  obtain ⟨O1, hO1⟩ : ∃ o, Obj.cells #[.slice An L.no.length cn, .slice As L.se.length cs, .slice Ap (List.length Mp) cp, .slice Aq L.po.length cq, .slice Ar (List.length Mr) cr, .int .i64 L.sp, .int .i64 L.mu, .int .i64 L.wa, .int .i64 L.ca, .int .i64 L.st] 38 = o := ⟨_, rfl⟩
  obtain ⟨O2, hO2⟩ : ∃ o, Obj.cells #[.slice Bn M.no.length dn, .slice Bs M.se.length ds, .slice Bp (List.length Np) dp, .slice Bq M.po.length dq, .slice Br (List.length Nr) dr, .int .i64 M.sp, .int .i64 M.mu, .int .i64 M.wa, .int .i64 M.ca, .int .i64 M.st] 38 = o := ⟨_, rfl⟩
  obtain ⟨W2, hW2⟩ : ∃ W, (w.alloc O1).alloc O2 = W := ⟨_, rfl⟩
  have f12 : Fr No w W2 := by rw [← hW2]; exact ((Fr.refl No w).alloc _).alloc _
  have b1 : W2.heap[w.heap.size]? = some O1 := by rw [← hW2]; exact blk_alloc (blk_new w O1) O2
  have b2 : W2.heap[w.heap.size + 1]? = some O2 := by
    rw [← hW2]
    have := blk_new (w.alloc O1) O2
    rwa [show (w.alloc O1).heap.size = w.heap.size + 1 by simp] at this
  obtain ⟨g, hg⟩ : ∃ g, w.heap.size = g := ⟨_, rfl⟩
  rw [hg] at b1 b2
  rw [← hO1] at b1
  rw [← hO2] at b2
  have HB1 := Lib.hid b1
  have HB2 := Lib.hid b2
  have HF := Lib.hid f12
  have E3 := Lib.hid (fun W (f : Fr No W2 W) => refLists_any (c := cp) (d := dp) (h3.fr (f12.trans f (fun _ k => k.elim)) (fun _ _ k => k)) (k3.fr (f12.trans f (fun _ k => k.elim)) (fun _ _ k => k)))
  have E5 := Lib.hid (fun W (f : Fr No W2 W) => refLists_any (c := cr) (d := dr) (h6.fr (f12.trans f (fun _ k => k.elim)) (fun _ _ k => k)) (k6.fr (f12.trans f (fun _ k => k.elim)) (fun _ _ k => k)))
  rw [h4, k4] at E3
  rw [h7, k7] at E5
  have H1 := Lib.hid (h1.rd.no f12)
  have H2 := Lib.hid (h2.rd.no f12)
  have H5 := Lib.hid (h5.rd.no f12)
  have K1 := Lib.hid (k1.rd.no f12)
  have K2 := Lib.hid (k2.rd.no f12)
  have K5 := Lib.hid (k5.rd.no f12)
  have m1 := h1.rd.2.1
  have m2 := h2.rd.2.1
  have m5 := h5.rd.2.1
  have HS := Lib.hid hS
  have HT := Lib.hid hT
  obtain ⟨c0, c1, c2, c3, c4, _, _, _, _, _⟩ := tens b1
  obtain ⟨d0, d1, d2, d3, d4, _, _, _, _, _⟩ := tens b2
  have NO := fun h => Lib.hid (sameL_no (L := L) (M := M) h)
  have YES := fun h => Lib.hid (sameL_yes (L := L) (M := M) h)
  have HNO := Lib.hid NO
  have HYES := Lib.hid YES
  clear NO YES
  obtain ⟨r, hr⟩ : ∃ r, sameL L M = r := ⟨_, rfl⟩
  rw [hr] at HNO HYES
  rw [hr]
  clear hr h1 h2 h3 h4 h5 h6 h7 k1 k2 k3 k4 k5 k6 k7 b1 b2 f12 hS hT
  subst hO1 hO2
  by_cases l0 : L.no.length = M.no.length
  case neg =>
    have hr : r = false := (HNO.out (fun h => l0 (by rw [h.2.1]))).out
    have i0 : ¬ (L.no.length : Int) = (M.no.length : Int) := by omega
    subst hr
    clear l0
    go_enter Try.func19, Try.ntmps19
    go_wp2
    go_ret
    exact ⟨rfl, HF.out⟩
  have L0 := Lib.hid l0
  rw [← l0] at hW2 HB2 d0
  rw [← l0]
  clear l0
  by_cases l1 : L.se.length = M.se.length
  case neg =>
    have hr : r = false := (HNO.out (fun h => l1 (by rw [h.2.2.1]))).out
    have i1 : ¬ (L.se.length : Int) = (M.se.length : Int) := by omega
    subst hr
    clear l1
    go_enter Try.func19, Try.ntmps19
    go_wp2
    go_ret
    exact ⟨rfl, HF.out⟩
  have L1 := Lib.hid l1
  rw [← l1] at hW2 HB2 d1
  rw [← l1]
  clear l1
  by_cases l2 : L.po.length = M.po.length
  case neg =>
    have hr : r = false := (HNO.out (fun h => l2 (by rw [h.2.2.2.2.1]))).out
    have i2 : ¬ (L.po.length : Int) = (M.po.length : Int) := by omega
    subst hr
    clear l2
    go_enter Try.func19, Try.ntmps19
    go_wp2
    go_ret
    exact ⟨rfl, HF.out⟩
  have L2 := Lib.hid l2
  rw [← l2] at hW2 HB2 d3
  rw [← l2]
  clear l2
  obtain ⟨nn, hnn⟩ : ∃ n, L.no.length = n := ⟨_, rfl⟩
  obtain ⟨ns, hns⟩ : ∃ n, L.se.length = n := ⟨_, rfl⟩
  obtain ⟨nqo, hnq⟩ : ∃ n, L.po.length = n := ⟨_, rfl⟩
  rw [hnn] at hW2 HB1 HB2 m1 c0 d0 ⊢
  rw [hns] at hW2 HB1 HB2 m2 c1 d1 ⊢
  rw [hnq] at hW2 HB1 HB2 m5 c3 d3 ⊢
  have HNN := Lib.hid hnn
  have HNS := Lib.hid hns
  have HNQ := Lib.hid hnq
  clear hnn hns hnq
  have FR0 := Fr.refl No W2
  go_enter Try.func19, Try.ntmps19
  by_cases q0 : L.pa = M.pa
  case neg =>
    have hr : r = false := (HNO.out (fun h => q0 h.2.2.2.1)).out
    subst hr
    have EC := E3.out _ FR0
    rw [decide_eq_false q0] at EC
    have HEC := Lib.hid EC
    clear EC q0
    go_wp2_with fail
    refine HEC.out.mono ?_
    rintro e wz ⟨rfl, Fz⟩
    go_wp2
    go_ret
    exact ⟨rfl, (HF.out.trans FR0 (fun _ k => k.elim)).trans Fz (fun _ k => k.elim)⟩
  have EC0 := E3.out _ FR0
  rw [decide_eq_true q0] at EC0
  have HEC0 := Lib.hid EC0
  have Q0 := Lib.hid q0
  clear EC0 q0
  go_wp2_with fail
  refine HEC0.out.mono ?_
  rintro e wa0 ⟨rfl, Fa0⟩
  have FR1 := FR0.trans Fa0 (fun _ k => k.elim)
  have c4' := (tens (FR1.heap HB1.out (fun k => k))).2.2.2.2.1
  have d4' := (tens (FR1.heap HB2.out (fun k => k))).2.2.2.2.1
  clear c0 c1 c2 c3 c4 d0 d1 d2 d3 d4
  by_cases q1 : L.ro = M.ro
  case neg =>
    have hr : r = false := (HNO.out (fun h => q1 h.2.2.2.2.2)).out
    subst hr
    have EC := E5.out _ FR1
    rw [decide_eq_false q1] at EC
    have HEC := Lib.hid EC
    clear EC q1
    go_wp2_with fail
    refine HEC.out.mono ?_
    rintro e wz ⟨rfl, Fz⟩
    go_wp2
    go_ret
    exact ⟨rfl, (HF.out.trans FR1 (fun _ k => k.elim)).trans Fz (fun _ k => k.elim)⟩
  have EC1 := E5.out _ FR1
  rw [decide_eq_true q1] at EC1
  have HEC1 := Lib.hid EC1
  have Q1 := Lib.hid q1
  clear EC1 q1
  go_wp2_with fail
  refine HEC1.out.mono ?_
  rintro e wa1 ⟨rfl, Fa1⟩
  have FR2 := FR1.trans Fa1 (fun _ k => k.elim)
  have HF4 := Lib.hid FR2
  clear c4' d4' Fa0 Fa1 FR0 FR1 FR2
  go_wp2
  go_loopg [5] nn (fun gk i wr => ∃ k : Nat, k + gk = nn ∧ i = .int .i64 (k : Int) ∧ Hid (L.no.take k = M.no.take k) ∧ Hid (Fr No W2 wr))
  case atStart => exact ⟨0, by omega, rfl, (by show L.no.take 0 = M.no.take 0; simp), HF4⟩
  case round =>
    obtain ⟨k, hk, rfl, S5, F5⟩ := hrel
    skip
    obtain ⟨c0, c1, c2, c3, c4, c5, c6, c7, c8, c9⟩ := tens (F5.out.heap HB1.out (fun k => k))
    obtain ⟨d0, d1, d2, d3, d4, d5, d6, d7, d8, d9⟩ := tens (F5.out.heap HB2.out (fun k => k))
    by_cases hlt : k < nn
    · have hkL : k < L.no.length := by rw [HNN.out]; exact hlt
      have hkM : k < M.no.length := by rw [← L0.out]; exact hkL
      obtain ⟨ad, rfl, cx0⟩ := cx1_at (H1.out.no F5.out) hkL
      obtain ⟨bd, rfl, cy0⟩ := cx1_at (K1.out.no F5.out) hkM
      have tl := List.take_succ_eq_append_getElem hkL
      have tm := List.take_succ_eq_append_getElem hkM
      have hne : L.no[k] ≠ M.no[k] → L.no ≠ M.no := fun h e => h (List.getElem_of_eq e hkL)
      have sx := HS.out _ (List.getElem_mem hkL); have sy := HT.out _ (List.getElem_mem hkM)
      obtain ⟨⟨x, y⟩, hx⟩ : ∃ x, L.no[k] = x := ⟨_, rfl⟩
      obtain ⟨⟨x', y'⟩, hy⟩ : ∃ x, M.no[k] = x := ⟨_, rfl⟩
      rw [hx] at cx0 tl hne sx
      rw [hy] at cy0 tm hne sy
      unfold cxc at cx0 cy0
      simp only at cx0 cy0 sx sy
      have hn := neq_cx x y x' y' sx sy
      have i4 : (k : Int) < (nn : Int) := by omega
      have i0 : (0 : Int) ≤ (k : Int) := by omega
      have TL := Lib.hid tl
      have TM := Lib.hid tm
      have HNE := Lib.hid hne
      clear tl tm hne hx hy c1 d1 c2 d2 c3 d3 c4 d4 c5 c6 c7 c8 c9 d5 d6 d7 d8 d9
      by_cases he : (x, y) = (x', y')
      · rw [decide_eq_true he] at hn
        have S' : Hid (L.no.take (k + 1) = M.no.take (k + 1)) := by
          show L.no.take (k + 1) = M.no.take (k + 1)
          rw [TL.out, TM.out, S5.out, he]
        simp only [Bool.not_true] at hn
        clear he
        go_wp2
        go_quiet (fail)
        go_wp2
        go_roundg (nn - (k + 1))
        case measure => omega
        case rel => exact ⟨k + 1, by omega, by go_num, S', Lib.hid (F5.out.drewN _)⟩
      · rw [decide_eq_false he] at hn
        have hr : r = false := (HNO.out (fun h => HNE.out he h.2.1)).out
        subst hr
        simp only [Bool.not_false] at hn
        clear he
        go_wp2
        go_quiet (fail)
        go_wp2
        go_ret
        exact ⟨rfl, HF.out.trans (F5.out.drewN _) (fun _ k => k.elim)⟩
    · obtain rfl : k = nn := by omega
      have EQ5 : Hid (L.no = M.no) := by
        show L.no = M.no
        have hs := S5.out
        rw [List.take_of_length_le (by rw [HNN.out]; exact Nat.le_refl _), List.take_of_length_le (by rw [← L0.out, HNN.out]; exact Nat.le_refl _)] at hs
        exact hs
      skip
      clear c2 c3 c4 c5 c6 c7 c8 c9 d2 d3 d4 d5 d6 d7 d8 d9
      go_wp2
      clear c1 d1
      go_loopg [6] ns (fun gk i wr => ∃ k : Nat, k + gk = ns ∧ i = .int .i64 (k : Int) ∧ Hid (L.se.take k = M.se.take k) ∧ Hid (Fr No W2 wr))
      case atStart => exact ⟨0, by omega, rfl, (by show L.se.take 0 = M.se.take 0; simp), F5⟩
      case round =>
        obtain ⟨k, hk, rfl, S6, F6⟩ := hrel
        clear c0 d0
        obtain ⟨c0, c1, c2, c3, c4, c5, c6, c7, c8, c9⟩ := tens (F6.out.heap HB1.out (fun k => k))
        obtain ⟨d0, d1, d2, d3, d4, d5, d6, d7, d8, d9⟩ := tens (F6.out.heap HB2.out (fun k => k))
        by_cases hlt : k < ns
        · have hkL : k < L.se.length := by rw [HNS.out]; exact hlt
          have hkM : k < M.se.length := by rw [← L1.out]; exact hkL
          obtain ⟨ad, rfl, cx0, cx1, cx2⟩ := sei_at (H2.out.no F6.out) hkL
          obtain ⟨bd, rfl, cy0, cy1, cy2⟩ := sei_at (K2.out.no F6.out) hkM
          have tl := List.take_succ_eq_append_getElem hkL
          have tm := List.take_succ_eq_append_getElem hkM
          have hne : L.se[k] ≠ M.se[k] → L.se ≠ M.se := fun h e => h (List.getElem_of_eq e hkL)
          skip
          obtain ⟨⟨x, y, z⟩, hx⟩ : ∃ x, L.se[k] = x := ⟨_, rfl⟩
          obtain ⟨⟨x', y', z'⟩, hy⟩ : ∃ x, M.se[k] = x := ⟨_, rfl⟩
          rw [hx] at cx0 cx1 cx2 tl hne
          rw [hy] at cy0 cy1 cy2 tm hne
          skip
          simp only at cx0 cx1 cx2 cy0 cy1 cy2
          have hn := neq_sec x y z x' y' z'
          have i4 : (k : Int) < (ns : Int) := by omega
          have i0 : (0 : Int) ≤ (k : Int) := by omega
          have TL := Lib.hid tl
          have TM := Lib.hid tm
          have HNE := Lib.hid hne
          clear tl tm hne hx hy c0 d0 c2 d2 c3 d3 c4 d4 c5 c6 c7 c8 c9 d5 d6 d7 d8 d9
          by_cases he : (x, y, z) = (x', y', z')
          · rw [decide_eq_true he] at hn
            have S' : Hid (L.se.take (k + 1) = M.se.take (k + 1)) := by
              show L.se.take (k + 1) = M.se.take (k + 1)
              rw [TL.out, TM.out, S6.out, he]
            simp only [Bool.not_true] at hn
            clear he
            go_wp2
            go_quiet (fail)
            go_wp2
            go_roundg (ns - (k + 1))
            case measure => omega
            case rel => exact ⟨k + 1, by omega, by go_num, S', Lib.hid (F6.out.drewN _)⟩
          · rw [decide_eq_false he] at hn
            have hr : r = false := (HNO.out (fun h => HNE.out he h.2.2.1)).out
            subst hr
            simp only [Bool.not_false] at hn
            clear he
            go_wp2
            go_quiet (fail)
            go_wp2
            go_ret
            exact ⟨rfl, HF.out.trans (F6.out.drewN _) (fun _ k => k.elim)⟩
        · obtain rfl : k = ns := by omega
          have EQ6 : Hid (L.se = M.se) := by
            show L.se = M.se
            have hs := S6.out
            rw [List.take_of_length_le (by rw [HNS.out]; exact Nat.le_refl _), List.take_of_length_le (by rw [← L1.out, HNS.out]; exact Nat.le_refl _)] at hs
            exact hs
          skip
          clear c0 c2 c3 c4 c5 c6 c7 c8 c9 d0 d2 d3 d4 d5 d6 d7 d8 d9
          obtain ⟨_, _, _, c3, _⟩ := tens (F6.out.heap HB1.out (fun k => k))
          obtain ⟨_, _, _, d3, _⟩ := tens (F6.out.heap HB2.out (fun k => k))
          go_wp2
          clear c3 d3
          go_loopg [7] nqo (fun gk i wr => ∃ k : Nat, k + gk = nqo ∧ i = .int .i64 (k : Int) ∧ Hid (L.po.take k = M.po.take k) ∧ Hid (Fr No W2 wr))
          case atStart => exact ⟨0, by omega, rfl, (by show L.po.take 0 = M.po.take 0; simp), F6⟩
          case round =>
            obtain ⟨k, hk, rfl, S7, F7⟩ := hrel
            clear c1 d1
            obtain ⟨c0, c1, c2, c3, c4, c5, c6, c7, c8, c9⟩ := tens (F7.out.heap HB1.out (fun k => k))
            obtain ⟨d0, d1, d2, d3, d4, d5, d6, d7, d8, d9⟩ := tens (F7.out.heap HB2.out (fun k => k))
            by_cases hlt : k < nqo
            · have hkL : k < L.po.length := by rw [HNQ.out]; exact hlt
              have hkM : k < M.po.length := by rw [← L2.out]; exact hkL
              obtain ⟨ad, rfl, cx0, cx1, cx2, cx3⟩ := poi_at (H5.out.no F7.out) hkL
              obtain ⟨bd, rfl, cy0, cy1, cy2, cy3⟩ := poi_at (K5.out.no F7.out) hkM
              have tl := List.take_succ_eq_append_getElem hkL
              have tm := List.take_succ_eq_append_getElem hkM
              have hne : L.po[k] ≠ M.po[k] → L.po ≠ M.po := fun h e => h (List.getElem_of_eq e hkL)
              skip
              obtain ⟨⟨x, y, z, u⟩, hx⟩ : ∃ x, L.po[k] = x := ⟨_, rfl⟩
              obtain ⟨⟨x', y', z', u'⟩, hy⟩ : ∃ x, M.po[k] = x := ⟨_, rfl⟩
              rw [hx] at cx0 cx1 cx2 cx3 tl hne
              rw [hy] at cy0 cy1 cy2 cy3 tm hne
              skip
              simp only at cx0 cx1 cx2 cx3 cy0 cy1 cy2 cy3
              have hn := neq_poi x y z u x' y' z' u'
              have i4 : (k : Int) < (nqo : Int) := by omega
              have i0 : (0 : Int) ≤ (k : Int) := by omega
              have TL := Lib.hid tl
              have TM := Lib.hid tm
              have HNE := Lib.hid hne
              clear tl tm hne hx hy c0 d0 c1 d1 c2 d2 c4 d4 c5 c6 c7 c8 c9 d5 d6 d7 d8 d9
              by_cases he : (x, y, z, u) = (x', y', z', u')
              · rw [decide_eq_true he] at hn
                have S' : Hid (L.po.take (k + 1) = M.po.take (k + 1)) := by
                  show L.po.take (k + 1) = M.po.take (k + 1)
                  rw [TL.out, TM.out, S7.out, he]
                simp only [Bool.not_true] at hn
                clear he
                go_wp2
                go_quiet (fail)
                go_wp2
                go_roundg (nqo - (k + 1))
                case measure => omega
                case rel => exact ⟨k + 1, by omega, by go_num, S', Lib.hid (F7.out.drewN _)⟩
              · rw [decide_eq_false he] at hn
                have hr : r = false := (HNO.out (fun h => HNE.out he h.2.2.2.2.1)).out
                subst hr
                simp only [Bool.not_false] at hn
                clear he
                go_wp2
                go_quiet (fail)
                go_wp2
                go_ret
                exact ⟨rfl, HF.out.trans (F7.out.drewN _) (fun _ k => k.elim)⟩
            · obtain rfl : k = nqo := by omega
              have EQ7 : Hid (L.po = M.po) := by
                show L.po = M.po
                have hs := S7.out
                rw [List.take_of_length_le (by rw [HNQ.out]; exact Nat.le_refl _), List.take_of_length_le (by rw [← L2.out, HNQ.out]; exact Nat.le_refl _)] at hs
                exact hs
              clear c0 c1 c2 c4 d0 d1 d2 d4
              have h5w := five_way L.sp L.mu L.wa L.ca L.st M.sp M.mu M.wa M.ca M.st
              rcases h5w with ⟨e1, e2, e3, e4, e5⟩ | hf | ⟨e1, hf⟩ | ⟨e1, e2, hf⟩ | ⟨e1, e2, e3, hf⟩ | ⟨e1, e2, e3, e4, hf⟩
              case inl =>
                have hr : r = true := (HYES.out ⟨⟨e1, e2, e3, e4, e5⟩, EQ5.out, EQ6.out, Q0.out, EQ7.out, Q1.out⟩).out
                subst hr
                rw [e1] at c5
                rw [e2] at c6
                rw [e3] at c7
                rw [e4] at c8
                rw [e5] at c9
                clear e1 e2 e3 e4 e5
                go_wp2
                go_ret
                exact ⟨rfl, HF.out.trans F7.out (fun _ k => k.elim)⟩
              all_goals
                have hr : r = false := (HNO.out (fun h => by
                  have h1 := h.1
                  exact hf (by first | exact h1.1 | exact h1.2.1 | exact h1.2.2.1 | exact h1.2.2.2.1 | exact h1.2.2.2.2))).out
                subst hr
                try rw [e1] at c5
                try rw [e2] at c6
                try rw [e3] at c7
                try rw [e4] at c8
                try clear e1
                try clear e2
                try clear e3
                try clear e4
                go_wp2
                go_ret
                refine ⟨?_, HF.out.trans F7.out (fun _ k => k.elim)⟩
                first
                  | rfl
                  | (show Ending.returned (.bool (L.st == M.st)) = _
                     rw [beq_eq_false_iff_ne.2 hf])

end Go.Proofs.Ytfnlimcgoeknjaa
