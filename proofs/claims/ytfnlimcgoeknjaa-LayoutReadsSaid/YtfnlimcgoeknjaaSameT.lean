import Derived.Test.YtfnlimcgoeknjaaSameP
import Derived.Deep.QuietTactic
import Derived.BigQuiet
namespace Go.Proofs.Ytfnlimcgoeknjaa
open Go.RowKit Go Fl

theorem tens {w : World} {g : Nat} {t : TypeId} {c0 c1 c2 c3 c4 c5 c6 c7 c8 c9 : Value} (h : w.heap[g]? = some (.cells #[c0, c1, c2, c3, c4, c5, c6, c7, c8, c9] t (0, 0))) :
    w.cell? ⟨g, 0, none⟩ = some c0 ∧ w.cell? ⟨g, 1, none⟩ = some c1 ∧ w.cell? ⟨g, 2, none⟩ = some c2 ∧ w.cell? ⟨g, 3, none⟩ = some c3 ∧ w.cell? ⟨g, 4, none⟩ = some c4 ∧
    w.cell? ⟨g, 5, none⟩ = some c5 ∧ w.cell? ⟨g, 6, none⟩ = some c6 ∧ w.cell? ⟨g, 7, none⟩ = some c7 ∧ w.cell? ⟨g, 8, none⟩ = some c8 ∧ w.cell? ⟨g, 9, none⟩ = some c9 := by
  refine ⟨?_, ?_, ?_, ?_, ?_, ?_, ?_, ?_, ?_, ?_⟩ <;> (rw [blk_cell h]; rfl)
def Sized (L : Lay) : Prop := ∀ x ∈ L.no, x.1.natAbs < 2 ^ 53 ∧ x.2.natAbs < 2 ^ 53

set_option maxRecDepth 100000 in
set_option maxHeartbeats 8000000 in
/-- Two layouts that hold the same are alike. -/
theorem rlsame_true {b b' : Nat} {L : Lay} {C D : Array Value} {w : World} (hC : LayV b w L C) (hD : LayV b' w L D) (hS : Sized L) :
    Calls Try.prog 19 #[.agg C, .agg D] w fun e w' => e = .returned (.bool true) ∧ Fr No w w' := by
  obtain ⟨An, cn, As, cs, Ap, cp, Aq, cq, Ar, cr, Mp, Mr, rfl, h1, h2, ⟨h3, h4⟩, h5, h6, h7⟩ := hC
  obtain ⟨Bn, dn, Bs, ds, Bp, dp, Bq, dq, Br, dr, Np, Nr, rfl, k1, k2, ⟨k3, k4⟩, k5, k6, k7⟩ := hD
  have lp : Np.length = Mp.length := by have := congrArg List.length (h4.trans k4.symm); simpa using this.symm
  have lr : Nr.length = Mr.length := by have := congrArg List.length (h7.trans k7.symm); simpa using this.symm
  have mn := h1.rd.2.1
  have ms := h2.rd.2.1
  have mq := h5.rd.2.1
  rw [lp, lr]
  unfold lcs
  obtain ⟨W1, hW1⟩ : ∃ W, w.alloc (.cells #[.slice An L.no.length cn, .slice As L.se.length cs, .slice Ap Mp.length cp, .slice Aq L.po.length cq, .slice Ar Mr.length cr, .int .i64 L.sp, .int .i64 L.mu, .int .i64 L.wa, .int .i64 L.ca, .int .i64 L.st] 38) = W := ⟨_, rfl⟩
  have f1 : Fr No w W1 := by rw [← hW1]; exact (Fr.refl No w).alloc _
  have b1 : W1.heap[w.heap.size]? = some (.cells #[.slice An L.no.length cn, .slice As L.se.length cs, .slice Ap Mp.length cp, .slice Aq L.po.length cq, .slice Ar Mr.length cr, .int .i64 L.sp, .int .i64 L.mu, .int .i64 L.wa, .int .i64 L.ca, .int .i64 L.st] 38 (0, 0)) := by rw [← hW1]; exact blk_new _ _
  obtain ⟨W2, hW2⟩ : ∃ W, W1.alloc (.cells #[.slice Bn L.no.length dn, .slice Bs L.se.length ds, .slice Bp Mp.length dp, .slice Bq L.po.length dq, .slice Br Mr.length dr, .int .i64 L.sp, .int .i64 L.mu, .int .i64 L.wa, .int .i64 L.ca, .int .i64 L.st] 38) = W := ⟨_, rfl⟩
  have f2 : Fr No W1 W2 := by rw [← hW2]; exact (Fr.refl No W1).alloc _
  have b2 : W2.heap[W1.heap.size]? = some (.cells #[.slice Bn L.no.length dn, .slice Bs L.se.length ds, .slice Bp Mp.length dp, .slice Bq L.po.length dq, .slice Br Mr.length dr, .int .i64 L.sp, .int .i64 L.mu, .int .i64 L.wa, .int .i64 L.ca, .int .i64 L.st] 38 (0, 0)) := by rw [← hW2]; exact blk_new _ _
  have f12 := f1.trans f2 (fun _ k => k.elim)
  have b1' := f2.heap b1 (fun k => k)
  have e1 : W1.heap.size = w.heap.size + 1 := by rw [← hW1]; simp
  obtain ⟨g, hg⟩ : ∃ g, w.heap.size = g := ⟨_, rfl⟩
  rw [hg] at e1 b1'
  rw [e1] at b2
  have HB1 := Lib.hid b1'
  have HB2 := Lib.hid b2
  have HF := Lib.hid f12
  have H1 := Lib.hid (h1.rd.no f12)
  have H2 := Lib.hid (h2.rd.no f12)
  have H5 := Lib.hid (h5.rd.no f12)
  have K1 := Lib.hid (k1.rd.no f12)
  have K2 := Lib.hid (k2.rd.no f12)
  have K5 := Lib.hid (k5.rd.no f12)
  have LP : Hid (∀ W, Fr No W2 W → Calls Try.prog 54 #[.slice Ap Mp.length cp, .slice Bp Mp.length dp] W fun e w' => e = .returned (.bool true) ∧ Fr No W2 w') := by
    show ∀ W, _
    intro W hW
    have := refLists_true (c := cp) (d := dp) (h3.fr (f12.trans hW (fun _ k => k.elim)) (fun _ _ k => k)) (k3.fr (f12.trans hW (fun _ k => k.elim)) (fun _ _ k => k)) (h4.trans k4.symm)
    rw [lp] at this
    exact this.mono fun _ _ ⟨h1, h2⟩ => ⟨h1, hW.trans h2 (fun _ k => k.elim)⟩
  have LR : Hid (∀ W, Fr No W2 W → Calls Try.prog 54 #[.slice Ar Mr.length cr, .slice Br Mr.length dr] W fun e w' => e = .returned (.bool true) ∧ Fr No W2 w') := by
    show ∀ W, _
    intro W hW
    have := refLists_true (c := cr) (d := dr) (h6.fr (f12.trans hW (fun _ k => k.elim)) (fun _ _ k => k)) (k6.fr (f12.trans hW (fun _ k => k.elim)) (fun _ _ k => k)) (h7.trans k7.symm)
    rw [lr] at this
    exact this.mono fun _ _ ⟨h1, h2⟩ => ⟨h1, hW.trans h2 (fun _ k => k.elim)⟩
  have HS := Lib.hid hS
  obtain ⟨nn, hnn⟩ : ∃ n, L.no.length = n := ⟨_, rfl⟩
  obtain ⟨ns, hns⟩ : ∃ n, L.se.length = n := ⟨_, rfl⟩
  obtain ⟨nqo, hnq⟩ : ∃ n, L.po.length = n := ⟨_, rfl⟩
  rw [hnn] at hW1 hW2 HB1 HB2 mn ⊢
  rw [hns] at hW1 hW2 HB1 HB2 ms ⊢
  rw [hnq] at hW1 hW2 HB1 HB2 mq ⊢
  have HNN := Lib.hid hnn
  have HNS := Lib.hid hns
  have HNQ := Lib.hid hnq
  obtain ⟨c0, c1, c2, c3, c4, _, _, _, _, _⟩ := tens HB1.out
  obtain ⟨d0, d1, d2, d3, d4, _, _, _, _, _⟩ := tens HB2.out
  clear h1 h2 h3 h4 h5 h6 h7 k1 k2 k3 k4 k5 k6 k7 f1 f2 f12 b1 b1' b2 lp lr hS hnn hns hnq
  go_enter Try.func19, Try.ntmps19
  go_wp2_with fail
  refine (LP.out _ (Fr.refl _ _)).mono ?_
  rintro e w3 ⟨rfl, F3⟩
  have c3' := (tens (F3.heap HB1.out (fun k => k))).2.2.2.2.1
  have d3' := (tens (F3.heap HB2.out (fun k => k))).2.2.2.2.1
  clear c0 c1 c2 c3 c4 d0 d1 d2 d3 d4
  go_wp2_with fail
  refine (LR.out _ F3).mono ?_
  rintro e w4 ⟨rfl, F4⟩
  have HF4 := Lib.hid F4
  clear c3' d3' F3 F4 LP LR
  go_wp2
  go_loopg [5] nn (fun gk i wr => ∃ k : Nat, k + gk = nn ∧ i = .int .i64 (k : Int) ∧ Hid (Fr No W2 wr))
  case atStart => exact ⟨0, by omega, rfl, HF4⟩
  case round =>
    obtain ⟨k, hk, rfl, FW⟩ := hrel
    obtain ⟨c0, c1, c2, c3, c4, _, _, _, _, _⟩ := tens (FW.out.heap HB1.out (fun k => k))
    obtain ⟨d0, d1, d2, d3, d4, _, _, _, _, _⟩ := tens (FW.out.heap HB2.out (fun k => k))
    by_cases hlt : k < nn
    · have hkM : k < L.no.length := by rw [HNN.out]; exact hlt
      obtain ⟨ad, rfl, cx⟩ := cx1_at (H1.out.no FW.out) hkM
      obtain ⟨bd, rfl, cy⟩ := cx1_at (K1.out.no FW.out) hkM
      have sz := HS.out _ (List.getElem_mem hkM)
      obtain ⟨⟨x, y⟩, hx⟩ : ∃ x, L.no[k] = x := ⟨_, rfl⟩
      rw [hx] at cx cy sz
      unfold cxc at cx cy
      simp only at cx cy sz
      have o1 : (FloatKind.f64.format.order (F x) (F x) == some Ordering.eq) = true := by rw [ord_eq (isF x) (isF x) sz.1 sz.1]; simp
      have o2 : (FloatKind.f64.format.order (F y) (F y) == some Ordering.eq) = true := by rw [ord_eq (isF y) (isF y) sz.2 sz.2]; simp
      have i4 : (k : Int) < (nn : Int) := by omega
      have i0 : (0 : Int) ≤ (k : Int) := by omega
      clear hx sz c1 c2 c3 c4 d1 d2 d3 d4
      go_wp2
      go_quiet (fail)
      go_wp2
      go_roundg (nn - (k + 1))
      case measure => omega
      case rel => exact ⟨k + 1, by omega, by go_num, Lib.hid (FW.out.drewN _)⟩
    · obtain rfl : k = nn := by omega
      clear c2 c3 c4 d2 d3 d4 HF4
      go_wp2
      go_loopg [6] ns (fun gk i wr => ∃ k : Nat, k + gk = ns ∧ i = .int .i64 (k : Int) ∧ Hid (Fr No W2 wr))
      case atStart => exact ⟨0, by omega, rfl, FW⟩
      case round =>
        obtain ⟨k, hk, rfl, FV⟩ := hrel
        clear c0 c1 d0 d1 FW
        obtain ⟨c0, c1, c2, c3, c4, _, _, _, _, _⟩ := tens (FV.out.heap HB1.out (fun k => k))
        obtain ⟨d0, d1, d2, d3, d4, _, _, _, _, _⟩ := tens (FV.out.heap HB2.out (fun k => k))
        by_cases hlt : k < ns
        · have hkM : k < L.se.length := by rw [HNS.out]; exact hlt
          obtain ⟨ad, rfl, cx0, cx1, cx2⟩ := sei_at (H2.out.no FV.out) hkM
          obtain ⟨bd, rfl, cy0, cy1, cy2⟩ := sei_at (K2.out.no FV.out) hkM
          obtain ⟨⟨x, y, z⟩, hx⟩ : ∃ x, L.se[k] = x := ⟨_, rfl⟩
          rw [hx] at cx0 cx1 cx2 cy0 cy1 cy2
          simp only at cx0 cx1 cx2 cy0 cy1 cy2
          have i4 : (k : Int) < (ns : Int) := by omega
          have i0 : (0 : Int) ≤ (k : Int) := by omega
          clear hx c0 c2 c3 c4 d0 d2 d3 d4
          go_wp2
          go_quiet (fail)
          go_wp2
          go_roundg (ns - (k + 1))
          case measure => omega
          case rel => exact ⟨k + 1, by omega, by go_num, Lib.hid (FV.out.drewN _)⟩
        · obtain rfl : k = ns := by omega
          clear c0 c2 c4 d0 d2 d4
          go_wp2
          go_loopg [7] nqo (fun gk i wr => ∃ k : Nat, k + gk = nqo ∧ i = .int .i64 (k : Int) ∧ Hid (Fr No W2 wr))
          case atStart => exact ⟨0, by omega, rfl, FV⟩
          case round =>
            obtain ⟨k, hk, rfl, FU⟩ := hrel
            clear c1 c3 d1 d3 FV
            obtain ⟨c0, c1, c2, c3, c4, c5, c6, c7, c8, c9⟩ := tens (FU.out.heap HB1.out (fun k => k))
            obtain ⟨d0, d1, d2, d3, d4, d5, d6, d7, d8, d9⟩ := tens (FU.out.heap HB2.out (fun k => k))
            by_cases hlt : k < nqo
            · have hkM : k < L.po.length := by rw [HNQ.out]; exact hlt
              obtain ⟨ad, rfl, cx0, cx1, cx2, cx3⟩ := poi_at (H5.out.no FU.out) hkM
              obtain ⟨bd, rfl, cy0, cy1, cy2, cy3⟩ := poi_at (K5.out.no FU.out) hkM
              obtain ⟨⟨x, y, z, u⟩, hx⟩ : ∃ x, L.po[k] = x := ⟨_, rfl⟩
              rw [hx] at cx0 cx1 cx2 cx3 cy0 cy1 cy2 cy3
              simp only at cx0 cx1 cx2 cx3 cy0 cy1 cy2 cy3
              have i4 : (k : Int) < (nqo : Int) := by omega
              have i0 : (0 : Int) ≤ (k : Int) := by omega
              clear hx c0 c1 c2 c4 c5 c6 c7 c8 c9 d0 d1 d2 d4 d5 d6 d7 d8 d9
              go_wp2
              go_quiet (fail)
              go_wp2
              go_roundg (nqo - (k + 1))
              case measure => omega
              case rel => exact ⟨k + 1, by omega, by go_num, Lib.hid (FU.out.drewN _)⟩
            · obtain rfl : k = nqo := by omega
              clear c0 c1 c2 c4 d0 d1 d2 d4
              go_wp2
              go_ret
              exact ⟨rfl, HF.out.trans FU.out (fun _ k => k.elim)⟩
end Go.Proofs.Ytfnlimcgoeknjaa
