import Derived.Test.YtfnlimcgoeknjaaRefQ
import Derived.Test.YtfnlimcgoeknjaaEncT
namespace Go.Proofs.Ytfnlimcgoeknjaa
open Go.RowKit Go Fl

theorem rat_any (x : Int × Int) (hx : x.1.natAbs < 2 ^ 53 ∧ x.2.natAbs < 2 ^ 53) (w : World) :
    Calls Try.prog 24 #[cxc x] w fun e w' => e = .returned (.tuple #[.int .i64 x.1, .int .i64 x.2]) ∧ w' = w := by
  obtain ⟨x, y⟩ := x
  have h1 : ∀ w, (convert 46 2 (.float .f64 (F x))).run Try.prog w = .ok (.int .i64 x) w := fun w => run_convert_float_int w _ _ _ _ _ _ (by rw [Try.underlying46]; rfl) Try.underlying2 (toIntI (isF x) hx.1)
  have h2 : ∀ w, (convert 46 2 (.float .f64 (F y))).run Try.prog w = .ok (.int .i64 y) w := fun w => run_convert_float_int w _ _ _ _ _ _ (by rw [Try.underlying46]; rfl) Try.underlying2 (toIntI (isF y) hx.2)
  unfold cxc
  clear hx
  go_enter Try.func24, Try.ntmps24
  go_wp2
  go_ret2
  exact ⟨rfl, rfl⟩
theorem num1 (n : Nat) (h : n < 18446744073709551616) : numB 8 [(n : Int)] = putBits n 8 := by unfold numB; simp [u64_nat n h]
theorem num3 (n : Nat) (h : n < 18446744073709551616) : numB 8 [66, 76, (n : Int)] = putBits 66 8 ++ putBits 76 8 ++ putBits n 8 := by
  have e1 : u64 66 = 66 := rfl
  have e2 : u64 76 = 76 := rfl
  unfold numB
  simp [u64_nat n h, e1, e2]

set_option maxRecDepth 100000 in
set_option maxHeartbeats 8000000 in
theorem rlencode_any {L : Lay} {C : Array Value} {w : World} (hC : LayU w L C) (hS : ∀ x ∈ L.no, x.1.natAbs < 2 ^ 53 ∧ x.2.natAbs < 2 ^ 53) (hb : (layBits L).length ≤ 1000000) :
    Calls Try.prog 14 #[.agg C] w fun e w' => ∃ v, e = .returned v ∧ Own w' 5 v (bys (closed (pack (layBits L)))) ∧ Hid (∀ k, v.ownBlock = some k → w.heap.size ≤ k) ∧ Fr No w w' := by
  obtain ⟨An, cn, As, cs, Ap, cp, Aq, cq, Ar, cr, Mp, Mr, rfl, ⟨h1, u1⟩, ⟨h2, u2⟩, ⟨h3, u3, x3, e3⟩, ⟨h4, u4⟩, h5, u5, x5, e5⟩ := hC
  unfold lcs
  obtain ⟨W1, hW1⟩ : ∃ W, w.alloc (.cells #[.slice An L.no.length cn, .slice As L.se.length cs, .slice Ap (List.length Mp) cp, .slice Aq L.po.length cq, .slice Ar (List.length Mr) cr, .int .i64 L.sp, .int .i64 L.mu, .int .i64 L.wa, .int .i64 L.ca, .int .i64 L.st] 38) = W := ⟨_, rfl⟩
  have f1 : Fr No w W1 := by rw [← hW1]; exact (Fr.refl No w).alloc _
  have b1 : W1.heap[w.heap.size]? = some (.cells #[.slice An L.no.length cn, .slice As L.se.length cs, .slice Ap (List.length Mp) cp, .slice Aq L.po.length cq, .slice Ar (List.length Mr) cr, .int .i64 L.sp, .int .i64 L.mu, .int .i64 L.wa, .int .i64 L.ca, .int .i64 L.st] 38 (0, 0)) := by rw [← hW1]; exact blk_new _ _
  obtain ⟨h, hh⟩ : ∃ h, w.heap.size = h := ⟨_, rfl⟩
  rw [hh] at b1
  have HB1 := Lib.hid b1
  have HF := Lib.hid f1
  have HLD := Lib.hid hb
  have hlb : (layB noE L.no).length + (layB seE L.se).length + (layB ilE Mp).length + (layB poE L.po).length + (layB ilE Mr).length + 96 ≤ 1000000 := by
    unfold layBits at hb
    simp only [List.length_append, putBits_length, numB_length, List.length_cons, List.length_nil] at hb
    rw [ilE_map, ilE_map, e3, e5]
    omega
  have HLB := Lib.hid hlb
  have hlc : (L.no.flatMap noE).length + (L.se.flatMap seE).length + (layB ilE Mp).length + (L.po.flatMap poE).length + (layB ilE Mr).length + 120 ≤ 1000000 := by
    unfold layB at hlb ⊢
    simp only [List.length_append, putBits_length] at hlb ⊢
    omega
  have HLC := Lib.hid hlc
  have H1 := Lib.hid (h1.no f1)
  have H2 := Lib.hid (h2.no f1)
  have H3 := Lib.hid ((h3.fr f1 (fun _ _ k => k)).row.rd)
  have H4 := Lib.hid (h4.no f1)
  have H5 := Lib.hid ((h5.fr f1 (fun _ _ k => k)).row.rd)
  have X3 : Hid (∀ x ∈ Mp, Rd W1 x.1 (ints .i64 x.2.2)) := fun x hx => ((h3.fr f1 (fun _ _ k => k)).each x hx).1
  have X5 : Hid (∀ x ∈ Mr, Rd W1 x.1 (ints .i64 x.2.2)) := fun x hx => ((h5.fr f1 (fun _ _ k => k)).each x hx).1
  have HS := Lib.hid hS
  have HE := Lib.hid (And.intro e3 e5)
  have m1 := h1.2.1
  have m2 := h2.2.1
  have m4 := h4.2.1
  obtain ⟨n1, hn1⟩ : ∃ n, L.no.length = n := ⟨_, rfl⟩
  obtain ⟨n2, hn2⟩ : ∃ n, L.se.length = n := ⟨_, rfl⟩
  obtain ⟨n4, hn4⟩ : ∃ n, L.po.length = n := ⟨_, rfl⟩
  rw [hn1] at hW1 HB1 m1 ⊢
  rw [hn2] at hW1 HB1 m2 ⊢
  rw [hn4] at hW1 HB1 m4 ⊢
  have N1 := Lib.hid hn1
  have N2 := Lib.hid hn2
  have N4 := Lib.hid hn4
  have E0 : Hid (Own W1 4 (.slice none 0 0) (bls [])) := Own.nil _ _
  have HP := Lib.hid (rputs_new E0.out [66, 76, (n1 : Int)] 8 8 rfl (by omega) (by simp) (by simp))
  rw [num3 n1 (by omega), List.nil_append] at HP
  obtain ⟨k0, _, _, _, _, _, _, _, _, _⟩ := ten0 HB1.out
  clear hb hlb hlc h1 h2 h3 h4 h5 x3 x5 u1 u2 u3 u4 u5 hS e3 e5 hn1 hn2 hn4 b1 f1
  go_enter Try.func14, Try.ntmps14
  go_wp2_with fail
  refine HP.out.mono ?_
  rintro e w2 ⟨v1, rfl, O1, F1⟩
  have HO := Lib.hid O1
  have HG := Lib.hid F1
  clear HP O1 F1 k0
  go_wp2
  go_loopg [3, 4] n1 (fun gk u i wr => ∃ (k : Nat) (v2 : Value), k + gk = n1 ∧ v2 = u ∧ i = .int .i64 (k : Int) ∧ Hid (Own wr 4 v2 (bls (putBits 66 8 ++ putBits 76 8 ++ putBits n1 8 ++ (L.no.take k).flatMap noE))) ∧ Hid (Fr No W1 wr))
  case atStart => exact ⟨0, _, by omega, rfl, rfl, Lib.hid (by rw [List.take_zero, List.flatMap_nil, List.append_nil]; exact HO.out), HG⟩
  case round =>
    obtain ⟨k, v2, hk, rfl, rfl, HW, HV⟩ := hrel
    clear HO HG
    obtain ⟨k0, k1, k2, k3, k4, k5, k6, k7, k8, k9⟩ := ten0 (HV.out.heap HB1.out (fun k => k))
    by_cases hlt : k < n1
    · have hkl : k < L.no.length := by rw [N1.out]; exact hlt
      obtain ⟨ad, rfl, cx⟩ := cx1_at (H1.out.no HV.out) hkl
      have sz := HS.out _ (List.getElem_mem hkl)
      have hsn := flat_snoc noE L.no k hkl
      have hle := flat_le2 noE L.no k hkl
      obtain ⟨x, hx⟩ : ∃ x, L.no[k] = x := ⟨_, rfl⟩
      rw [hx] at hsn hle cx sz
      obtain ⟨x, y⟩ := x
      have hA := Lib.hid (rat_any (x, y) sz)
      have hll : (noE (x, y)).length = 64 := by unfold noE; rw [numB_length]; rfl
      rw [hll] at hle
      have HSN := Lib.hid hsn
      have HLE := Lib.hid hle
      have i4 : (k : Int) < (n1 : Int) := by omega
      have i0 : (0 : Int) ≤ (k : Int) := by omega
      unfold cxc at cx hA
      simp only at cx hA
      clear hx hsn hle hll sz k1 k2 k3 k4 k5 k6 k7 k8 k9
      go_wp2_with fail
      refine (hA.out _).mono ?_
      rintro e wA ⟨rfl, rfl⟩
      have HP := Lib.hid (rputs_new HW.out [x, y] 32 32 rfl (by omega) (by simp) (by have h1 := HLC.out; have h2 := HLE.out; simp only [List.length_append, putBits_length, List.length_cons, List.length_nil]; omega))
      clear hA
      go_wp2_with fail
      refine HP.out.mono ?_
      rintro e w9 ⟨v9, rfl, O9, F9⟩
      have H8 : Hid (Own w9 4 v9 (bls (putBits 66 8 ++ putBits 76 8 ++ putBits n1 8 ++ (L.no.take (k + 1)).flatMap noE))) := by show Own _ _ _ _; rw [HSN.out, ← List.append_assoc]; exact O9
      have H9 := Lib.hid (HV.out.trans F9 (fun _ k => k.elim))
      clear HP O9 F9 cx k0
      go_wp2
      go_roundg (n1 - (k + 1))
      case measure => omega
      case rel => exact ⟨k + 1, v9, by omega, rfl, by go_num, H8, H9⟩
    · have hkn : k = n1 := by omega
      have hfin : Hid (Own wr 4 v2 (bls (putBits 66 8 ++ putBits 76 8 ++ putBits n1 8 ++ L.no.flatMap noE))) := by have := HW.out; rw [hkn, ← N1.out, List.take_length] at this; rw [← N1.out]; exact this
      have hki : ¬ (k : Int) < (n1 : Int) := by omega
      clear hkn hlt
      have HP := Lib.hid (rputs_new hfin.out [(n2 : Int)] 8 8 rfl (by omega) (by simp) (by have h1 := HLC.out; simp only [List.length_append, putBits_length, List.length_cons, List.length_nil]; omega))
      rw [num1 n2 (by omega)] at HP
      clear k2 k4 k5 k6 k7 k8 k9
      go_wp2_with fail
      refine HP.out.mono ?_
      rintro e wq ⟨vq, rfl, Oq, Fq⟩
      have HO := Lib.hid Oq
      have HG := Lib.hid (HV.out.trans Fq (fun _ k => k.elim))
      clear HP Oq Fq hfin HV HW hki k0 k1 k3
      go_wp2
      go_loopg [3, 7] n2 (fun gk u i wr => ∃ (k : Nat) (v2 : Value), k + gk = n2 ∧ v2 = u ∧ i = .int .i64 (k : Int) ∧ Hid (Own wr 4 v2 (bls ((putBits 66 8 ++ putBits 76 8 ++ putBits n1 8 ++ L.no.flatMap noE) ++ putBits n2 8 ++ (L.se.take k).flatMap seE))) ∧ Hid (Fr No W1 wr))
      case atStart => exact ⟨0, _, by omega, rfl, rfl, Lib.hid (by rw [List.take_zero, List.flatMap_nil, List.append_nil]; exact HO.out), HG⟩
      case round =>
        obtain ⟨k, v2, hk, rfl, rfl, HW, HV⟩ := hrel
        clear HO HG
        obtain ⟨k0, k1, k2, k3, k4, k5, k6, k7, k8, k9⟩ := ten0 (HV.out.heap HB1.out (fun k => k))
        by_cases hlt : k < n2
        · have hkl : k < L.se.length := by rw [N2.out]; exact hlt
          obtain ⟨ad, rfl, cx0, cx1, cx2⟩ := sei_at (H2.out.no HV.out) hkl
          have hsn := flat_snoc seE L.se k hkl
          have hle := flat_le2 seE L.se k hkl
          obtain ⟨x, hx⟩ : ∃ x, L.se[k] = x := ⟨_, rfl⟩
          rw [hx] at hsn hle cx0 cx1 cx2
          obtain ⟨x0, x1, x2⟩ := x
          simp only at cx0 cx1 cx2
          have hll : (seE (x0, x1, x2)).length = 32 := by unfold seE; simp only [List.length_append, numB_length, List.length_cons, List.length_nil]
          rw [hll] at hle
          have HSN := Lib.hid hsn
          have HLE := Lib.hid hle
          have i4 : (k : Int) < (n2 : Int) := by omega
          have i0 : (0 : Int) ≤ (k : Int) := by omega
          have fa := (Fr.refl No wr).alloc (.cells #[.int .i64 x0, .int .i64 x1, .int .i64 x2] 48)
          have ba : (wr.alloc (.cells #[.int .i64 x0, .int .i64 x1, .int .i64 x2] 48)).heap[wr.heap.size]? = some (.cells #[.int .i64 x0, .int .i64 x1, .int .i64 x2] 48 (0, 0)) := blk_new _ _
          obtain ⟨q, hq⟩ : ∃ q, wr.heap.size = q := ⟨_, rfl⟩
          obtain ⟨WA, hWA⟩ : ∃ W, wr.alloc (.cells #[.int .i64 x0, .int .i64 x1, .int .i64 x2] 48) = W := ⟨_, rfl⟩
          rw [hWA] at fa ba
          rw [hq] at ba
          have HBA := Lib.hid ba
          have HO2 := Lib.hid (HW.out.fr fa (fun _ _ k => k))
          have HV2 := Lib.hid (HV.out.trans fa (fun _ k => k.elim))
          clear hx hsn hle hll fa ba k0 k2 k3 k4 k5 k6 k7 k8 k9
          have d0a := (three (HBA.out)).1
          have d0b := (three (HBA.out)).2.1
          have d0c := (three (HBA.out)).2.2.1
          have HP := Lib.hid (rputs_new HO2.out [x0] 16 16 rfl (by omega) (by simp) (by have h1 := HLC.out; have h2 := HLE.out; simp only [List.length_append, putBits_length, List.length_cons, List.length_nil]; omega))
          go_wp2_with fail
          refine HP.out.mono ?_
          rintro e w5 ⟨v5, rfl, Oa, Fa⟩
          clear HP d0a d0b d0c hWA cx0 cx1 cx2 k1
          have HO5 := Lib.hid Oa
          replace HBA := Lib.hid (Fa.heap HBA.out (fun k => k))
          replace HV2 := Lib.hid (HV2.out.trans Fa (fun _ k => k.elim))
          clear Oa Fa
          have d1a := (three (HBA.out)).1
          have d1b := (three (HBA.out)).2.1
          have d1c := (three (HBA.out)).2.2.1
          have HP := Lib.hid (rputs_new HO5.out [x1, x2] 8 8 rfl (by omega) (by simp) (by have h1 := HLC.out; have h2 := HLE.out; simp only [List.length_append, putBits_length, numB_length, List.length_cons, List.length_nil]; omega))
          go_wp2_with fail
          refine HP.out.mono ?_
          rintro e w9 ⟨v9, rfl, Oa, Fa⟩
          clear HP d1a d1b d1c
          have H8 : Hid (Own w9 4 v9 (bls ((putBits 66 8 ++ putBits 76 8 ++ putBits n1 8 ++ L.no.flatMap noE) ++ putBits n2 8 ++ (L.se.take (k + 1)).flatMap seE))) := by show Own _ _ _ _; rw [HSN.out, show seE (x0, x1, x2) = numB 16 [x0] ++ numB 8 [x1, x2] from rfl]; simpa only [List.append_assoc] using Oa
          have H9 := Lib.hid (HV2.out.trans Fa (fun _ k => k.elim))
          clear Oa Fa HBA HO2 HV2
          go_wp2
          go_roundg (n2 - (k + 1))
          case measure => omega
          case rel => exact ⟨k + 1, v9, by omega, rfl, by go_num, H8, H9⟩
        · have hkn : k = n2 := by omega
          have hfin : Hid (Own wr 4 v2 (bls ((putBits 66 8 ++ putBits 76 8 ++ putBits n1 8 ++ L.no.flatMap noE) ++ putBits n2 8 ++ L.se.flatMap seE))) := by have := HW.out; rw [hkn, ← N2.out, List.take_length] at this; rw [← N2.out]; exact this
          have hki : ¬ (k : Int) < (n2 : Int) := by omega
          clear hkn hlt
          clear k0 k3 k4 k5 k6 k7 k8 k9
          have HP := Lib.hid (rlists_any (c := cp) hfin.out (H3.out.no HV.out) (fun x hx => (X3.out x hx).no HV.out) (by have h1 := HLC.out; simp only [List.length_append, putBits_length]; omega))
          go_wp2_with fail
          refine HP.out.mono ?_
          rintro e wp ⟨vp, rfl, Op, Fp⟩
          have hfin2 := Lib.hid Op
          have HV2 := Lib.hid (HV.out.trans Fp (fun _ k => k.elim))
          clear HP Op Fp hfin HV HW hki k1 k2
          have k3 := (ten0 (HV2.out.heap HB1.out (fun k => k))).2.2.2.1
          have HP := Lib.hid (rputs_new hfin2.out [(n4 : Int)] 8 8 rfl (by omega) (by simp) (by have h1 := HLC.out; simp only [List.length_append, putBits_length, List.length_cons, List.length_nil]; omega))
          rw [num1 n4 (by omega)] at HP
          go_wp2_with fail
          refine HP.out.mono ?_
          rintro e wq ⟨vq, rfl, Oq, Fq⟩
          have HO := Lib.hid Oq
          have HG := Lib.hid (HV2.out.trans Fq (fun _ k => k.elim))
          clear HP Oq Fq hfin2 HV2 k3
          go_wp2
          go_loopg [3, 9] n4 (fun gk u i wr => ∃ (k : Nat) (v2 : Value), k + gk = n4 ∧ v2 = u ∧ i = .int .i64 (k : Int) ∧ Hid (Own wr 4 v2 (bls ((((putBits 66 8 ++ putBits 76 8 ++ putBits n1 8 ++ L.no.flatMap noE) ++ putBits n2 8 ++ L.se.flatMap seE) ++ layB ilE Mp) ++ putBits n4 8 ++ (L.po.take k).flatMap poE))) ∧ Hid (Fr No W1 wr))
          case atStart => exact ⟨0, _, by omega, rfl, rfl, Lib.hid (by rw [List.take_zero, List.flatMap_nil, List.append_nil]; exact HO.out), HG⟩
          case round =>
            obtain ⟨k, v2, hk, rfl, rfl, HW, HV⟩ := hrel
            clear HO HG
            obtain ⟨k0, k1, k2, k3, k4, k5, k6, k7, k8, k9⟩ := ten0 (HV.out.heap HB1.out (fun k => k))
            by_cases hlt : k < n4
            · have hkl : k < L.po.length := by rw [N4.out]; exact hlt
              obtain ⟨ad, rfl, cx0, cx1, cx2, cx3⟩ := poi_at (H4.out.no HV.out) hkl
              have hsn := flat_snoc poE L.po k hkl
              have hle := flat_le2 poE L.po k hkl
              obtain ⟨x, hx⟩ : ∃ x, L.po[k] = x := ⟨_, rfl⟩
              rw [hx] at hsn hle cx0 cx1 cx2 cx3
              obtain ⟨x0, x1, x2, x3⟩ := x
              simp only at cx0 cx1 cx2 cx3
              have hll : (poE (x0, x1, x2, x3)).length = 32 := by unfold poE; simp only [numB_length, List.length_cons, List.length_nil]
              rw [hll] at hle
              have HSN := Lib.hid hsn
              have HLE := Lib.hid hle
              have i4 : (k : Int) < (n4 : Int) := by omega
              have i0 : (0 : Int) ≤ (k : Int) := by omega
              have fa := (Fr.refl No wr).alloc (.cells #[.int .i64 x0, .int .i64 x1, .int .i64 x2, .int .i64 x3] 51)
              have ba : (wr.alloc (.cells #[.int .i64 x0, .int .i64 x1, .int .i64 x2, .int .i64 x3] 51)).heap[wr.heap.size]? = some (.cells #[.int .i64 x0, .int .i64 x1, .int .i64 x2, .int .i64 x3] 51 (0, 0)) := blk_new _ _
              obtain ⟨q, hq⟩ : ∃ q, wr.heap.size = q := ⟨_, rfl⟩
              obtain ⟨WA, hWA⟩ : ∃ W, wr.alloc (.cells #[.int .i64 x0, .int .i64 x1, .int .i64 x2, .int .i64 x3] 51) = W := ⟨_, rfl⟩
              rw [hWA] at fa ba
              rw [hq] at ba
              have HBA := Lib.hid ba
              have HO2 := Lib.hid (HW.out.fr fa (fun _ _ k => k))
              have HV2 := Lib.hid (HV.out.trans fa (fun _ k => k.elim))
              clear hx hsn hle hll fa ba k0 k1 k2 k4 k5 k6 k7 k8 k9
              have d0a := (four HBA.out).1
              have d0b := (four HBA.out).2.1
              have d0c := (four HBA.out).2.2.1
              have d0d := (four HBA.out).2.2.2.1
              have HP := Lib.hid (rputs_new HO2.out [x0, x1, x2, x3] 8 8 rfl (by omega) (by simp) (by have h1 := HLC.out; have h2 := HLE.out; simp only [List.length_append, putBits_length, List.length_cons, List.length_nil]; omega))
              go_wp2_with fail
              refine HP.out.mono ?_
              rintro e w9 ⟨v9, rfl, Oa, Fa⟩
              clear HP d0a d0b d0c d0d hWA cx0 cx1 cx2 cx3 k3
              have H8 : Hid (Own w9 4 v9 (bls ((((putBits 66 8 ++ putBits 76 8 ++ putBits n1 8 ++ L.no.flatMap noE) ++ putBits n2 8 ++ L.se.flatMap seE) ++ layB ilE Mp) ++ putBits n4 8 ++ (L.po.take (k + 1)).flatMap poE))) := by show Own _ _ _ _; rw [HSN.out, show poE (x0, x1, x2, x3) = numB 8 [x0, x1, x2, x3] from rfl]; simpa only [List.append_assoc] using Oa
              have H9 := Lib.hid (HV2.out.trans Fa (fun _ k => k.elim))
              clear Oa Fa HBA HO2 HV2
              go_wp2
              go_roundg (n4 - (k + 1))
              case measure => omega
              case rel => exact ⟨k + 1, v9, by omega, rfl, by go_num, H8, H9⟩
            · have hkn : k = n4 := by omega
              have hfin : Hid (Own wr 4 v2 (bls ((((putBits 66 8 ++ putBits 76 8 ++ putBits n1 8 ++ L.no.flatMap noE) ++ putBits n2 8 ++ L.se.flatMap seE) ++ layB ilE Mp) ++ putBits n4 8 ++ L.po.flatMap poE))) := by have := HW.out; rw [hkn, ← N4.out, List.take_length] at this; rw [← N4.out]; exact this
              have hki : ¬ (k : Int) < (n4 : Int) := by omega
              clear hkn hlt
              clear k0 k1 k2 k5 k6 k7 k8 k9
              have HP := Lib.hid (rlists_any (c := cr) hfin.out (H5.out.no HV.out) (fun x hx => (X5.out x hx).no HV.out) (by have h1 := HLC.out; simp only [List.length_append, putBits_length]; omega))
              go_wp2_with fail
              refine HP.out.mono ?_
              rintro e wp ⟨vp, rfl, Op, Fp⟩
              have hfin2 := Lib.hid Op
              have HV2 := Lib.hid (HV.out.trans Fp (fun _ k => k.elim))
              clear HP Op Fp hfin HV HW hki k3 k4
              obtain ⟨_, _, _, _, _, k5, k6, k7, k8, k9⟩ := ten0 (HV2.out.heap HB1.out (fun k => k))
              have HP := Lib.hid (rputs_new hfin2.out [L.sp, L.mu, L.wa, L.ca, L.st] 16 16 rfl (by omega) (by simp) (by have h1 := HLC.out; simp only [List.length_append, putBits_length, List.length_cons, List.length_nil]; omega))
              go_wp2_with fail
              refine HP.out.mono ?_
              rintro e wq ⟨vq, rfl, Oq, Fq⟩
              have O9 : Own wq 4 vq (bls (layBits L)) := by
                unfold layBits layB
                rw [← HE.out.1, ← HE.out.2, N1.out, N2.out, N4.out]
                have := Oq
                rw [ilE_map, ilE_map] at this
                unfold layB at this
                simpa only [List.append_assoc] using this
              have HV3 := Lib.hid ((HF.out.trans HV2.out (fun _ k => k.elim)).trans Fq (fun _ k => k.elim))
              have hb9 : (layBits L).length ≤ 1000000 := HLD.out
              obtain ⟨AA, ca, rfl, _, _, RA⟩ := O9.shape2
              have HPK := Lib.hid (refPack_any (c := ca) RA (by omega))
              rw [bls_length]
              clear HP Oq Fq O9 hfin2 HV2 k5 k6 k7 k8 k9 RA
              go_wp2_with fail
              refine HPK.out.mono ?_
              rintro e wy ⟨v8, rfl, O8, N8, F8⟩
              obtain ⟨A8, c8, rfl, hA8, _, R8⟩ := O8.shape2
              have HCL := Lib.hid (refClose_any (c := c8) R8 hA8 (by rw [pack_length]; omega))
              rw [bys_length]
              have HV4 := Lib.hid (HV3.out.trans F8 (fun _ k => k.elim))
              clear HPK O8 N8 F8 R8 HV3
              go_wp2_with fail
              refine HCL.out.mono ?_
              rintro e wz ⟨v9, rfl, O9, N9, F9⟩
              go_wp2
              go_ret
              exact ⟨v9, rfl, O9, (by show ∀ k, _; exact fun k hk => Nat.le_trans HV4.out.size (N9 k hk)), HV4.out.trans F9 (fun _ k => k.elim)⟩
end Go.Proofs.Ytfnlimcgoeknjaa
