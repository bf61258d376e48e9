import Derived.Test.YtfnlimcgoeknjaaMakeW
namespace Go.Proofs.Ytfnlimcgoeknjaa
open Go.RowKit Go Fl

/-- Bytes as numbers. -/
def u8i (l : List UInt8) : List Int := l.map fun b => ((b.toNat : Nat) : Int)
def roR (R : BS) : List (List Int) := R.map fun x => u8i x.2.2
theorem u8i_succ (l : List UInt8) (k : Nat) (h : k < l.length) : u8i (l.take (k + 1)) = u8i (l.take k) ++ [(((l.getD k 0).toNat : Nat) : Int)] := by
  unfold u8i
  rw [List.take_succ_eq_append_getElem h, List.map_append]
  simp [List.getD_eq_getElem?_getD, h]
theorem own_rd {w : World} {v : Value} {xs : List Int} (h : Own w 3 v (ints .i64 xs)) : ∃ A c, v = .slice A xs.length c ∧ (A = none → c = 0) ∧ (∀ ad, A = some ad → v.ownBlock = some ad.block) ∧ Rd w A (ints .i64 xs) := by
  obtain ⟨A, c, e, h1, _, r⟩ := h.shape2
  obtain ⟨A', c', e', _, h2, _⟩ := h.shape
  rw [ints_length] at e e'
  have : A' = A := by rw [e] at e'; injection e' with h; exact h.symm
  subst this
  exact ⟨A', c, e, h1, h2, r⟩

set_option maxRecDepth 20000 in
set_option maxHeartbeats 8000000 in
theorem rrough_own {f l s m wt c st j cc : Nat} {A : Option Addr} {R : BS} {w : World} (hb : f < 256 ∧ l < 256 ∧ s < 256 ∧ m < 65536 ∧ wt < 65536 ∧ c < 256 ∧ st < 256 ∧ j < 256) (hR : Bss w A R) (hs : small R = true) :
    Calls Try.prog 15 #[.agg (dcs f l s m wt c st j A R.length cc)] w fun e w' => ∃ C, e = .returned (.agg C) ∧ LayW w.heap.size w' (mkL f l s m wt c st j (roR R)) C ∧ Fr No w w' ∧ OwnN w.heap.size w' (mkL f l s m wt c st j (roR R)) C := by
  unfold dcs
  obtain ⟨W1, hW1⟩ : ∃ W, w.alloc (.cells #[.int .u8 (f : Int), .int .u8 (l : Int), .int .u8 (s : Int), .int .u16 (m : Int), .int .u16 (wt : Int), .int .u8 (c : Int), .int .u8 (st : Int), .int .u8 (j : Int), .slice A R.length cc] 30) = W := ⟨_, rfl⟩
  have f1 : Fr No w W1 := by rw [← hW1]; exact (Fr.refl No w).alloc _
  have b1 : W1.heap[w.heap.size]? = some (.cells #[.int .u8 (f : Int), .int .u8 (l : Int), .int .u8 (s : Int), .int .u16 (m : Int), .int .u16 (wt : Int), .int .u8 (c : Int), .int .u8 (st : Int), .int .u8 (j : Int), .slice A R.length cc] 30 (0, 0)) := by rw [← hW1]; exact blk_new _ _
  obtain ⟨h, hh⟩ : ∃ h, w.heap.size = h := ⟨_, rfl⟩
  rw [hh] at b1
  obtain ⟨W2, hW2⟩ : ∃ W, W1.alloc (.cells #[.slice none 0 0, .slice none 0 0, .slice none 0 0, .slice none 0 0, .slice none 0 0, .int .i64 0, .int .i64 0, .int .i64 0, .int .i64 0, .int .i64 0] 38) = W := ⟨_, rfl⟩
  have f2 : Fr No W1 W2 := by rw [← hW2]; exact (Fr.refl No W1).alloc _
  have b2r : W2.heap[W1.heap.size]? = some (.cells #[.slice none 0 0, .slice none 0 0, .slice none 0 0, .slice none 0 0, .slice none 0 0, .int .i64 0, .int .i64 0, .int .i64 0, .int .i64 0, .int .i64 0] 38 (0, 0)) := by rw [← hW2]; exact blk_new _ _
  obtain ⟨h2, hh2⟩ : ∃ h2, W1.heap.size = h2 := ⟨_, rfl⟩
  have hs3 : h < h2 := by rw [← hh2]; exact blk_lt b1
  rw [hh2] at b2r
  have f12 := f1.trans f2 (fun _ k => k.elim)
  have HF := Lib.hid f12
  have HB := Lib.hid (f2.heap b1 (fun k => k))
  have HBR := Lib.hid b2r
  have HR := Lib.hid (hR.no f12)
  have HR0 := Lib.hid hR
  obtain ⟨hs10, hs20⟩ := (small_iff R).1 hs
  have HS := Lib.hid hs10
  have HM := Lib.hid (rmake_own (A := A) (R := R) (cc := cc) (w := W2) hb)
  unfold dcs at HM
  obtain ⟨n, hn⟩ : ∃ n, R.length = n := ⟨_, rfl⟩
  have HN := Lib.hid hn
  rw [hn] at hW1 HB HM hs20 ⊢
  clear f1 b1 f2 b2r f12 hR hs hs10 hn
  go_enter Try.func15, Try.ntmps15
  go_upto_region 1 with (fail)
  refine wp_region_lit ?_
  refine wpList_load_row rfl 30 (.tmp 1) rfl h rfl 30 _ (0, 0) _ HB.out Try.underlying30 rfl (by kernel_rfl) ?_
  simp only [Act.put, List.setIfInBounds_toArray, List.set_cons_zero, List.set_cons_succ]
  go_wp2_with fail
  refine HM.out.mono ?_
  rintro e w3 ⟨C, rfl, V3, F3, N4, OC⟩
  obtain ⟨An, cn, As, cs, Ap, cp, Aq, cq, Ar, cr, Mp, Mr, rfl, P1, P2, P3, P4, P5, _, P6⟩ := V3
  have hMr : Mr = [] := List.map_eq_nil_iff.1 P6
  subst hMr
  have hAr : (Value.slice Ar 0 cr) = .slice none 0 0 := by
    have : some (Value.slice Ar 0 cr) = some (.slice none 0 0) := N4
    exact Option.some.inj this
  obtain ⟨b1, Ao, co, As', cs', Ap', cp', Aq', cq', Ar', cr', Mp', Mr', hb1, e0, ⟨ON, OU⟩, O2, ⟨O3, O3'⟩, ⟨_, OQ⟩, _⟩ := OC
  unfold lcs at e0
  injection e0 with e0
  injection e0 with a0 e0
  injection e0 with a1 e0
  injection e0 with a2 e0
  injection e0 with a3 e0
  injection a0 with a0 _ a0'
  injection a1 with a1 _ a1'
  injection a2 with a2 hMl a2'
  injection a3 with a3 _ a3'
  subst a0 a0' a1 a1' a2 a2' a3 a3'
  clear e0
  obtain ⟨L, hL⟩ : ∃ L, mkL f l s m wt c st j [] = L := ⟨_, rfl⟩
  rw [hL] at P1 P2 P3 P4 ON O2 O3' ⊢
  have HON := Lib.hid (show (W2.heap.size ≤ b1 ∧ b1 ≤ w3.heap.size) ∧ (OwnK w3 45 1 (.slice An L.no.length cn) L.no.length (L.no.flatMap cx1) ∧ ∀ ad, An = some ad → W2.heap.size ≤ ad.block ∧ ad.block < b1) ∧ RdN b1 w3 As 3 L.se.length (L.se.flatMap sei) ∧ (Rd2 b1 w3 Ap Mp' ∧ Mp'.map (fun x => x.2.2) = L.pa ∧ Mp.length = Mp'.length) ∧ ∀ ad ad', An = some ad → Aq = some ad' → ad'.block ≠ ad.block from ⟨hb1, ⟨ON, OU⟩, O2, ⟨O3, O3', hMl⟩, OQ⟩)
  clear hb1 ON OU O2 O3 O3' hMl OQ
  unfold lcs
  rw [show (List.length ([] : IL)) = 0 from rfl, hAr]
  have HPa := Lib.hid (show (RdN W2.heap.size w3 An 1 L.no.length (L.no.flatMap cx1) ∧ Up w3 An) ∧ (RdN W2.heap.size w3 As 3 L.se.length (L.se.flatMap sei) ∧ Up w3 As) ∧ (Rd2 W2.heap.size w3 Ap Mp ∧ (Up w3 Ap ∧ ∀ x ∈ Mp, Up w3 x.1) ∧ Mp.map (fun x => x.2.2) = L.pa) ∧ (RdN W2.heap.size w3 Aq 4 L.po.length (L.po.flatMap poi) ∧ Up w3 Aq) from ⟨P1, P2, P3, P4⟩)
  have HLL := Lib.hid hL
  have HF3 := Lib.hid (HF.out.trans F3 (fun _ k => k.elim))
  have HB3 := Lib.hid (F3.heap HB.out (fun k => k))
  have HBR3 := Lib.hid (F3.heap HBR.out (fun k => k))
  have HR3 := Lib.hid (HR.out.no F3)
  obtain ⟨nn, hnn⟩ : ∃ n, L.no.length = n := ⟨_, rfl⟩
  obtain ⟨ns, hns⟩ : ∃ n, L.se.length = n := ⟨_, rfl⟩
  obtain ⟨np, hnp⟩ : ∃ n, List.length Mp = n := ⟨_, rfl⟩
  obtain ⟨nq', hnq⟩ : ∃ n, L.po.length = n := ⟨_, rfl⟩
  rw [hnn, hns, hnp, hnq]
  have HNN := Lib.hid hnn
  have HNS := Lib.hid hns
  have HNP := Lib.hid hnp
  have HNQ := Lib.hid hnq
  have F3s := F3.size
  clear P1 P2 P3 P4 P5 P6 N4 hL hnn hns hnp hnq F3 HF HB HBR HR HM hAr
  go_wp2
  obtain ⟨W4, hW4⟩ : ∃ W, w3.alloc (.cells #[.slice An nn cn, .slice As ns cs, .slice Ap np cp, .slice Aq nq' cq, .slice none 0 0, .int .i64 L.sp, .int .i64 L.mu, .int .i64 L.wa, .int .i64 L.ca, .int .i64 L.st] 38) = W := ⟨_, rfl⟩
  obtain ⟨g, hg⟩ : ∃ g, w3.heap.size = g := ⟨_, rfl⟩
  rw [hW4, hg]
  have f4 : Fr No w3 W4 := by rw [← hW4]; exact (Fr.refl No w3).alloc _
  have b4 : W4.heap[g]? = some (.cells #[.slice An nn cn, .slice As ns cs, .slice Ap np cp, .slice Aq nq' cq, .slice none 0 0, .int .i64 L.sp, .int .i64 L.mu, .int .i64 L.wa, .int .i64 L.ca, .int .i64 L.st] 38 (0, 0)) := by rw [← hW4, ← hg]; exact blk_new _ _
  have HB4 := Lib.hid (f4.heap HB3.out (fun k => k))
  have HBR4 := Lib.hid (f4.heap HBR3.out (fun k => k))
  have HR4 := Lib.hid (HR3.out.no f4)
  have HF4 := Lib.hid (HF3.out.trans f4 (fun _ k => k.elim))
  have HG4 := Lib.hid b4
  have hgh : h < g := by rw [← hg]; exact blk_lt HB3.out
  have hgh2 : h2 < g := by rw [← hg]; exact blk_lt HBR3.out
  have glt := blk_lt b4
  have HP4 := Lib.hid f4
  have HGE := Lib.hid (Nat.le_of_eq hg)
  have HW4 : Hid (w3.heap.size ≤ W4.heap.size) := f4.size
  have HW3 := HF3.out.size
  have HW23 := Lib.hid F3s
  clear hW4 hg f4 b4 HF3 HB3 HBR3 HR3
  go_loopg [4] n (fun gk i wr => ∃ (k : Nat) (v3 : Value) (M : IL), k + gk = n ∧ i = .int .i64 (k : Int) ∧ Hid (Rows2 W4 wr v3 M) ∧ Hid (M.map (fun x => x.2.2) = roR (R.take k)) ∧ Hid (wr.heap[g]? = some (.cells #[.slice An nn cn, .slice As ns cs, .slice Ap np cp, .slice Aq nq' cq, v3, .int .i64 L.sp, .int .i64 L.mu, .int .i64 L.wa, .int .i64 L.ca, .int .i64 L.st] 38 (0, 0))) ∧ Hid (Fr (SG' g) W4 wr))
  case atStart => exact ⟨0, _, [], by omega, rfl, Rows2.nil _ _, rfl, HG4.out, Fr.refl _ _⟩
  case round =>
    obtain ⟨k, v3, M, hk, rfl, HW, HMk, HGr, HFr⟩ := hrel
    obtain ⟨wo, hwo⟩ : ∃ wo : World, wr = wo := ⟨_, rfl⟩
    rw [hwo] at HW HGr HFr ⊢
    clear hwo
    have hhg : ¬ SG' g h := by unfold SG'; omega
    have BH := Lib.hid (HFr.out.heap HB4.out hhg)
    have j8 := (nines BH.out).2.2.2.2.2.2.2.2
    have HF5 := Lib.hid (HF4.out.trans HFr.out (T := SG' g) (fun i hi => .inr (by have e : i = g := hi; rw [hh]; omega)))
    have glr : Hid (g < wo.heap.size) := blk_lt HGr.out
    by_cases hlt : k < n
    · have hkl : k < R.length := by rw [HN.out]; exact hlt
      have HRo := Lib.hid (HR0.out.no HF5.out)
      obtain ⟨ad, rfl, cx⟩ := HRo.out.1.bs hkl
      have hmem := List.getElem_mem hkl
      have htk := List.take_succ_eq_append_getElem hkl
      have hx10 := HS.out _ hmem
      obtain ⟨x, hx⟩ : ∃ x, R[k] = x := ⟨_, rfl⟩
      rw [hx] at cx hmem htk hx10
      obtain ⟨x0, x1', x2⟩ := x
      simp only at cx hx10
      have hbx := (HRo.out.2 _ hmem).2.2
      simp only at hbx
      obtain ⟨lx, hlx⟩ : ∃ m, x2.length = m := ⟨_, rfl⟩
      rw [hlx] at cx hx10
      have i4 : (k : Int) < (n : Int) := by omega
      have i0 : (0 : Int) ≤ (k : Int) := by omega
      have HT := Lib.hid htk
      have HX := Lib.hid hbx
      have HLX := Lib.hid hlx
      clear hx hmem htk hbx hlx
      go_wp2
      go_loopg [5, 6] lx (fun gk u5 i wq => ∃ (q : Nat) (v5 : Value), q + gk = lx ∧ v5 = u5 ∧ i = .int .i64 (q : Int) ∧ Hid (Own wq 3 v5 (ints .i64 (u8i (x2.take q)))) ∧ Hid (New wo v5) ∧ Hid (Fr No wo wq))
      case atStart => exact ⟨0, _, by omega, rfl, rfl, Own.nil _ _, (fun k e => by simp [Value.ownBlock] at e), Fr.refl _ _⟩
      case round =>
        obtain ⟨q, v5, hq, rfl, rfl, HO, HNv, HFq⟩ := hrel
        have j8q := HFq.out.cell j8 (fun k => k)
        have cxq := HFq.out.cell cx (fun k => k)
        by_cases hql : q < lx
        · obtain ⟨bd, rfl, cb⟩ := (HX.out.no HFq.out).byte (show q < x2.length by rw [HLX.out]; exact hql)
          have hus := u8i_succ x2 q (by rw [HLX.out]; exact hql)
          obtain ⟨y, hy⟩ : ∃ y, (x2.getD q 0).toNat = y := ⟨_, rfl⟩
          have ylt : y < 256 := by rw [← hy]; exact UInt8.toNat_lt _
          rw [hy] at cb hus
          have HUS := Lib.hid hus
          have iq : (q : Int) < (lx : Int) := by omega
          have iq0 : (0 : Int) ≤ (q : Int) := by omega
          have hol : Hid ((ints .i64 (u8i (x2.take q))).length = q) := by show (ints .i64 (u8i (x2.take q))).length = q; rw [ints_length]; unfold u8i; rw [List.length_map, List.length_take, HLX.out]; omega
          clear hy hus
          go_wp2_with (at_builtin; go_loud (refine own_append rfl (.tmp 26) (.tmp 36) 49 3 (.int .i64 0) 8 rfl Try.underlying49 infoInt rfl (by decide) _ (ints .i64 (u8i (x2.take q))) (.int .i64 (y : Int)) _ rfl rfl rfl rfl HO.out (by rw [hol.out]; omega) ?_))
          intro v6 w6 o6 f6 a6
          obtain ⟨_, N6, F6⟩ := after_app (HFq.out.heap HGr.out (fun k => k)) glr.out HNv.out HFq.out f6 a6
          have H1 : Hid (Own w6 3 v6 (ints .i64 (u8i (x2.take (q + 1))))) := by
            rw [HUS.out]
            have e : ints .i64 (u8i (x2.take q) ++ [((y : Nat) : Int)]) = ints .i64 (u8i (x2.take q)) ++ [.int .i64 (y : Int)] := by simp [ints]
            rw [e]
            exact o6
          have H2 := Lib.hid N6
          have H3 := Lib.hid F6
          clear o6 f6 a6 N6 F6 HO HNv HFq cb
          go_wp2
          go_roundg (lx - (q + 1))
          case measure => omega
          case rel => exact ⟨q + 1, v6, by omega, rfl, by go_num, H1, H2, H3⟩
        · obtain rfl : q = lx := by omega
          have htake : x2.take q = x2 := by rw [← HLX.out, List.take_length]
          rw [htake] at HO
          obtain ⟨A5, c5, hv5, h5n, h5o, R5⟩ := own_rd HO.out
          have hul : (u8i x2).length = q := by unfold u8i; rw [List.length_map, HLX.out]
          have hML : M.length = k := by
            have := congrArg List.length HMk.out
            rw [List.length_map] at this
            rw [this]
            unfold roR
            rw [List.length_map, List.length_take, HN.out]
            omega
          have HWq := Lib.hid (HW.out.no HFq.out)
          have x5 : ∀ ad, A5 = some ad → W4.heap.size ≤ ad.block ∧ v3.ownBlock ≠ some ad.block ∧ ad.block < wr.heap.size := by
            intro ad e
            have hq := h5o ad e
            have h1 := HNv.out _ hq
            have h2 := HO.out.lt hq
            refine ⟨Nat.le_trans HFr.out.size h1, fun e2 => ?_, h2⟩
            have := HW.out.own.lt e2
            omega
          have HX5 := Lib.hid x5
          have HR5 := Lib.hid R5
          have H5N := Lib.hid h5n
          have HML := Lib.hid hML
          have HUL := Lib.hid hul
          have HBq := Lib.hid (HFq.out.heap HGr.out (fun k => k))
          have g4 := (tens HBq.out).2.2.2.2.1
          have z4 := blk_free HBq.out 4
          rw [hul] at hv5
          subst hv5
          clear h5n h5o R5 hML hul x5
          go_wp2_with (at_builtin; go_loud (refine own_append_k rfl (.tmp 39) (.tmp 41) 35 49 (.slice none 0 0) 1 24 rfl Try.underlying35 infoII rfl (by decide) (by decide) _ M.length (ilv M) _ _ rfl rfl rfl rfl (by simp [Value.oneCell']) HWq.out.own (by rw [HML.out]; omega) ?_))
          intro v7 w7 o7 f7 a7
          obtain ⟨B7, N7, F7⟩ := after_app HBq.out glt HWq.out.old (HFr.out.trans HFq.out (fun _ k => k.elim)) f7 a7
          have R7 : Rows2 W4 w7 v7 (M ++ [(A5, c5, u8i x2)]) := HWq.out.snoc (x := (A5, c5, u8i x2)) (by rw [HUL.out]; exact o7) f7 a7 (Nat.le_trans HFr.out.size HFq.out.size) HR5.out HX5.out H5N.out
          obtain ⟨A7, c7, hv7, _⟩ := o7.shape
          subst hv7
          have y4 := (tens B7).2.2.2.2.1
          have u4 := blk_free B7 4
          have fs : Fr (SG' g) w7 (w7.setCell ⟨g, 4, none⟩ (.slice A7 (M.length + 1) c7)) := (Fr.refl (SG' g) w7).setCell (p := ⟨g, 4, none⟩) (.inl rfl) (.slice A7 (M.length + 1) c7)
          have H1 : Hid (Rows2 W4 (w7.setCell ⟨g, 4, none⟩ (.slice A7 (M.length + 1) c7)) (.slice A7 (M.length + 1) c7) (M ++ [(A5, c5, u8i x2)])) := R7.fr fs (fun q hq e => by have e2 : q = g := e; omega)
          have H2 : Hid ((M ++ [(A5, c5, u8i x2)]).map (fun x => x.2.2) = roR (R.take (k + 1))) := by
            show (M ++ [(A5, c5, u8i x2)]).map (fun x => x.2.2) = roR (R.take (k + 1))
            rw [HT.out, List.map_append, HMk.out]
            unfold roR
            rw [List.map_append]
            rfl
          have H3 : Hid ((w7.setCell ⟨g, 4, none⟩ (.slice A7 (M.length + 1) c7)).heap[g]? = _) := blk_set B7 4 (.slice A7 (M.length + 1) c7)
          have H4 := Lib.hid (F7.trans fs (fun i hi => .inl hi))
          clear o7 f7 a7 B7 N7 F7 R7 fs HO HNv HFq HWq HX5 HR5 HBq g4 z4
          go_wp2
          go_roundg (n - (k + 1))
          case measure => omega
          case rel => exact ⟨k + 1, _, _, by omega, by go_num, H1, H2, H3, H4⟩
    · obtain rfl : k = n := by omega
      have hh2g : ¬ SG' g h2 := by unfold SG'; omega
      have HRV := Lib.hid (HFr.out.heap HBR4.out hh2g)
      obtain ⟨Ar, cr, hv3, _, _, RR, UR, UX⟩ := Rd2.ownU HW.out
      subst hv3
      go_upto_region 11 with (fail)
      refine wp_region_lit ?_
      refine wpList_load_row rfl 38 (.tmp 3) rfl g rfl 38 _ (0, 0) _ HGr.out Try.underlying38 rfl (by kernel_rfl) ?_
      simp only [Act.put, List.setIfInBounds_toArray, List.set_cons_zero, List.set_cons_succ]
      refine wpList_store_row rfl 38 (.tmp 2) (.tmp 44) rfl h2 _ rfl rfl 38 _ HRV.out (by kernel_rfl) (by simp) (by simp [Value.oneCell']) ?_
      go_wp2
      refine bodyPost_ret (results_cell1 rfl _ _ _ h2 _ rfl (run_loadVar_row _ h2 _ _ _ _ _ (setRow_heap _ h2 _ _ _ _ HRV.out) Try.underlying38 rfl (by kernel_rfl))) rfl ?_
      obtain ⟨⟨P1, U1⟩, ⟨P2, U2⟩, ⟨P3, U3, P3'⟩, ⟨P4, U4⟩⟩ := HPa.out
      have hroR : roR (R.take k) = roR R := by rw [← HN.out, List.take_length]
      have G1 : Fr (fun q => q = g ∨ q = h2) W4 (wo.setRow h2 #[.slice An nn cn, .slice As ns cs, .slice Ap np cp, .slice Aq nq' cq, .slice Ar M.length cr, .int .i64 L.sp, .int .i64 L.mu, .int .i64 L.wa, .int .i64 L.ca, .int .i64 L.st]) := (HFr.out.mono (fun i hi => .inl hi)).row (.inl (.inr rfl))
      have hw2 : w.heap.size ≤ W2.heap.size := by rw [hh, ← hW2, ← hW1]; simp; omega
      have hb2 : h2 < W2.heap.size := by rw [← hW2, ← hh2]; simp
      have hb4 : W2.heap.size ≤ W4.heap.size := Nat.le_trans HW23.out HW4.out
      have G0 : Fr (fun q => q = h2) w3 (wo.setRow h2 #[.slice An nn cn, .slice As ns cs, .slice Ap np cp, .slice Aq nq' cq, .slice Ar M.length cr, .int .i64 L.sp, .int .i64 L.mu, .int .i64 L.wa, .int .i64 L.ca, .int .i64 L.st]) := (HP4.out.no (S := fun q => q = h2)).trans G1 (fun i hi => by
        rcases hi with e | e
        · exact .inr (by rw [e]; exact HGE.out)
        · exact .inl e)
      have G2 : Fr (fun q => q = h2) wo (wo.setRow h2 #[.slice An nn cn, .slice As ns cs, .slice Ap np cp, .slice Aq nq' cq, .slice Ar M.length cr, .int .i64 L.sp, .int .i64 L.mu, .int .i64 L.wa, .int .i64 L.ca, .int .i64 L.st]) := (Fr.refl _ wo).row (.inl rfl)
      have hro : M.map (fun x => x.2.2) = (mkL f l s m wt c st j (roR R)).ro := by rw [HMk.out]; exact hroR
      have k1 : RdN w.heap.size (wo.setRow h2 #[.slice An nn cn, .slice As ns cs, .slice Ap np cp, .slice Aq nq' cq, .slice Ar M.length cr, .int .i64 L.sp, .int .i64 L.mu, .int .i64 L.wa, .int .i64 L.ca, .int .i64 L.st]) An 1 (mkL f l s m wt c st j (roR R)).no.length ((mkL f l s m wt c st j (roR R)).no.flatMap cx1) := by
        show RdN _ _ An 1 (mkL f l s m wt c st j []).no.length ((mkL f l s m wt c st j []).no.flatMap cx1)
        rw [HLL.out]
        exact (P1.fr G0 (fun k hk e => by omega)).mono hw2
      have k2 : RdN w.heap.size (wo.setRow h2 #[.slice An nn cn, .slice As ns cs, .slice Ap np cp, .slice Aq nq' cq, .slice Ar M.length cr, .int .i64 L.sp, .int .i64 L.mu, .int .i64 L.wa, .int .i64 L.ca, .int .i64 L.st]) As 3 (mkL f l s m wt c st j (roR R)).se.length ((mkL f l s m wt c st j (roR R)).se.flatMap sei) := by
        show RdN _ _ As 3 (mkL f l s m wt c st j []).se.length ((mkL f l s m wt c st j []).se.flatMap sei)
        rw [HLL.out]
        exact (P2.fr G0 (fun k hk e => by omega)).mono hw2
      have k3' : Mp.map (fun x => x.2.2) = (mkL f l s m wt c st j (roR R)).pa := by
        show _ = (mkL f l s m wt c st j []).pa
        rw [HLL.out]
        exact P3'
      have k4 : RdN w.heap.size (wo.setRow h2 #[.slice An nn cn, .slice As ns cs, .slice Ap np cp, .slice Aq nq' cq, .slice Ar M.length cr, .int .i64 L.sp, .int .i64 L.mu, .int .i64 L.wa, .int .i64 L.ca, .int .i64 L.st]) Aq 4 (mkL f l s m wt c st j (roR R)).po.length ((mkL f l s m wt c st j (roR R)).po.flatMap poi) := by
        show RdN _ _ Aq 4 (mkL f l s m wt c st j []).po.length ((mkL f l s m wt c st j []).po.flatMap poi)
        rw [HLL.out]
        exact (P4.fr G0 (fun k hk e => by omega)).mono hw2
      have both := layU_mk (cn := cn) (cs := cs) (cp := cp) (cq := cq) (cr := cr) k1 (U1.fr G0) k2 (U2.fr G0) ((P3.fr G0 (fun k hk e => by omega)).mono hw2) ⟨U3.1.fr G0, fun x hx => (U3.2 x hx).fr G0⟩ k3' k4 (U4.fr G0) ((RR.fr G2 (fun k hk e => by omega)).mono (Nat.le_trans hw2 hb4)) ⟨UR.fr G2, fun x hx => (UX x hx).fr G2⟩ hro
      have both' : LayW w.heap.size (wo.setRow h2 #[.slice An nn cn, .slice As ns cs, .slice Ap np cp, .slice Aq nq' cq, .slice Ar M.length cr, .int .i64 L.sp, .int .i64 L.mu, .int .i64 L.wa, .int .i64 L.ca, .int .i64 L.st]) (mkL f l s m wt c st j (roR R)) (lcs An (mkL f l s m wt c st j []).no.length cn As (mkL f l s m wt c st j []).se.length cs Ap (List.length Mp) cp Aq (mkL f l s m wt c st j []).po.length cq Ar M.length cr (mkL f l s m wt c st j []).sp (mkL f l s m wt c st j []).mu (mkL f l s m wt c st j []).wa (mkL f l s m wt c st j []).ca (mkL f l s m wt c st j []).st) := both
      rw [HLL.out, HNN.out, HNS.out, HNP.out, HNQ.out] at both'
      obtain ⟨⟨hb1, hb2'⟩, ⟨ON, OU⟩, O2, ⟨O3, O3', hMl⟩, OQ⟩ := HON.out
      have hw34 : w3.heap.size ≤ W4.heap.size := HP4.out.size
      have hsz := G0.size
      have ho := ownN_mk (cn := cn) (cs := cs) (cp := cp) (cq := cq) (cr := cr) (b := w.heap.size) (L := mkL f l s m wt c st j (roR R)) (b1 := b1) (Mp := Mp') (Mr := M) ⟨by omega, by omega⟩
        (by
          show OwnK _ 45 1 (.slice An (mkL f l s m wt c st j []).no.length cn) (mkL f l s m wt c st j []).no.length ((mkL f l s m wt c st j []).no.flatMap cx1)
          rw [HLL.out]
          exact ON.fr G0 (fun b hb e => by
            cases An with
            | none => simp [Value.ownBlock] at hb
            | some ad =>
              simp [Value.ownBlock] at hb
              have := P1.lo ad rfl
              omega))
        (fun ad e => ⟨Nat.le_trans hw2 (OU ad e).1, (OU ad e).2⟩)
        (by
          show RdN _ _ As 3 (mkL f l s m wt c st j []).se.length ((mkL f l s m wt c st j []).se.flatMap sei)
          rw [HLL.out]
          exact O2.fr G0 (fun k hk e => by omega))
        (O3.fr G0 (fun k hk e => by omega))
        (by
          show _ = (mkL f l s m wt c st j []).pa
          rw [HLL.out]
          exact O3')
        k4 OQ ((RR.fr G2 (fun k hk e => by omega)).mono (by omega)) hro
      have ho' : OwnN w.heap.size (wo.setRow h2 #[.slice An nn cn, .slice As ns cs, .slice Ap np cp, .slice Aq nq' cq, .slice Ar M.length cr, .int .i64 L.sp, .int .i64 L.mu, .int .i64 L.wa, .int .i64 L.ca, .int .i64 L.st]) (mkL f l s m wt c st j (roR R)) (lcs An (mkL f l s m wt c st j []).no.length cn As (mkL f l s m wt c st j []).se.length cs Ap (List.length Mp) cp Aq (mkL f l s m wt c st j []).po.length cq Ar M.length cr (mkL f l s m wt c st j []).sp (mkL f l s m wt c st j []).mu (mkL f l s m wt c st j []).wa (mkL f l s m wt c st j []).ca (mkL f l s m wt c st j []).st) := by rw [hMl]; exact ho
      rw [HLL.out, HNN.out, HNS.out, HNP.out, HNQ.out] at ho'
      exact ⟨_, rfl, both', (HF4.out.trans HFr.out (T := SG' g) (fun i hi => .inr (by have e : i = g := hi; rw [hh]; omega))).trans G2 (fun i hi => .inr (by have e : i = h2 := hi; rw [hh]; omega)), ho'⟩

theorem rrough_any {f l s m wt c st j cc : Nat} {A : Option Addr} {R : BS} {w : World} (hb : f < 256 ∧ l < 256 ∧ s < 256 ∧ m < 65536 ∧ wt < 65536 ∧ c < 256 ∧ st < 256 ∧ j < 256) (hR : Bss w A R) (hs : small R = true) :
    Calls Try.prog 15 #[.agg (dcs f l s m wt c st j A R.length cc)] w fun e w' => ∃ C, e = .returned (.agg C) ∧ LayW w.heap.size w' (mkL f l s m wt c st j (roR R)) C ∧ Fr No w w' :=
  (rrough_own hb hR hs).mono fun _ _ ⟨C, h1, h2, h3, _⟩ => ⟨C, h1, h2, h3⟩
end Go.Proofs.Ytfnlimcgoeknjaa
