import Derived.Test.YtfnlimcgoeknjaaEncX
namespace Go.Proofs.Ytfnlimcgoeknjaa
open Go.RowKit Go Fl

theorem rput1 {w : World} {v : Value} {b : List Bool} (h : Own w 4 v (bls b)) (hb : b.length ≤ 549755813888) (N : Nat) (width : Int) (m : Nat) (hm : clamp width = m) (hwd : -9223372036854775808 ≤ width ∧ width ≤ 9223372036854775807) :
    Calls Try.prog 65 #[v, .int .u64 (N : Int), .int .i64 width] w fun e w' => ∃ v', e = .returned v' ∧ Own w' 4 v' (bls (b ++ putBits N m)) ∧ Fr No w w' := by
  subst hm
  obtain ⟨A, c, rfl, hA, _, R⟩ := h.shape2
  rw [bls_length]
  refine (refPut_any R hA hb N width hwd).mono ?_
  rintro e w' ⟨v', rfl, O, _, F⟩
  exact ⟨v', rfl, O, F⟩

set_option maxRecDepth 20000 in
set_option maxHeartbeats 4000000 in
theorem rputs_any {w : World} {v : Value} {b : List Bool} {A : Option Addr} {c : Nat} {xs : List Int} (h : Own w 4 v (bls b)) (width : Int) (m : Nat) (hm : clamp width = m) (hwd : -9223372036854775808 ≤ width ∧ width ≤ 9223372036854775807) (hR : Rd w A (ints .i64 xs)) (hb : b.length + xs.length * m ≤ 549755813888) :
    Calls Try.prog 23 #[v, .int .i64 width, .slice A xs.length c] w fun e w' => ∃ v', e = .returned v' ∧ Own w' 4 v' (bls (b ++ numB m xs)) ∧ Fr No w w' := by
  have HO := Lib.hid h
  have HR := Lib.hid hR
  have HB := Lib.hid hb
  have hsz := hR.1
  rw [ints_length] at hsz
  obtain ⟨n, hn⟩ : ∃ n, xs.length = n := ⟨_, rfl⟩
  have HN := Lib.hid hn
  rw [hn] at hsz ⊢
  clear h hR hb hn
  go_enter Try.func23, Try.ntmps23
  go_wp2
  go_loopg [0, 7] n (fun gk u i wr => ∃ (k : Nat) (v2 : Value), k + gk = n ∧ v2 = u ∧ i = .int .i64 (k : Int) ∧ Hid (Own wr 4 v2 (bls (b ++ numB m (xs.take k)))) ∧ Hid (Fr No w wr))
  case atStart => exact ⟨0, _, by omega, rfl, rfl, Lib.hid (by rw [List.take_zero]; unfold numB; simpa using HO.out), Fr.refl _ _⟩
  case round =>
    obtain ⟨k, v2, hk, rfl, rfl, HW, HF⟩ := hrel
    by_cases hlt : k < n
    · obtain ⟨ad, rfl, cx⟩ := (HR.out.no HF.out).int (show k < xs.length by rw [HN.out]; exact hlt)
      have hsn := numB_snoc m xs k (by rw [HN.out]; exact hlt)
      obtain ⟨x, hx⟩ : ∃ x, xs.getD k 0 = x := ⟨_, rfl⟩
      rw [hx] at cx hsn
      have hP := rput1 HW.out (by
        rw [List.length_append, numB_length, List.length_take]
        have h1 := HB.out
        have h2 : min k xs.length * m ≤ xs.length * m := Nat.mul_le_mul_right _ (by omega)
        omega) (u64 x) width m hm hwd
      rw [List.append_assoc, ← hsn] at hP
      have i1 : IntKind.u64.wrap x = (u64 x : Int) := u64_wrap x
      have i4 : (k : Int) < (n : Int) := by omega
      have i0 : (0 : Int) ≤ (k : Int) := by omega
      have HP := Lib.hid hP
      clear hP hx hsn
      go_wp2_with fail
      refine HP.out.mono ?_
      rintro e w3 ⟨v3, rfl, O3, F3⟩
      have H3 := Lib.hid O3
      have H4 := Lib.hid (HF.out.trans F3 (fun _ k => k.elim))
      clear HP cx i1 O3 F3
      go_wp2
      go_roundg (n - (k + 1))
      case measure => omega
      case rel => exact ⟨k + 1, v3, by omega, rfl, by go_num, H3, H4⟩
    · obtain rfl : k = n := by omega
      go_wp2
      go_ret
      exact ⟨v2, rfl, by have := HW.out; rwa [← HN.out, List.take_length] at this, HF.out⟩
/-- 'put(b, width, []int{x ..})' of a row of its own. -/
theorem rputs_new {w : World} {v : Value} {b : List Bool} (h : Own w 4 v (bls b)) (xs : List Int) (width : Int) (m : Nat) (hm : clamp width = m) (hwd : -9223372036854775808 ≤ width ∧ width ≤ 9223372036854775807) (hl : xs.length ≤ 1000) (hb : b.length + xs.length * m ≤ 549755813888) :
    Calls Try.prog 23 #[v, .int .i64 width, .slice (some ⟨w.heap.size, 0, none⟩) xs.length xs.length] (w.alloc (.cells (ints .i64 xs).toArray 3)) fun e w' => ∃ v', e = .returned v' ∧ Own w' 4 v' (bls (b ++ numB m xs)) ∧ Fr No w w' := by
  have f := (Fr.refl No w).alloc (.cells (ints .i64 xs).toArray 3)
  exact (rputs_any (h.fr f (fun _ _ k => k)) width m hm hwd (rd_row w xs _ (by omega)) hb).mono fun _ _ ⟨v', h1, h2, h3⟩ => ⟨v', h1, h2, f.trans h3 (fun _ k => k.elim)⟩

set_option maxRecDepth 20000 in
set_option maxHeartbeats 4000000 in
theorem rlists_any {w : World} {v : Value} {b : List Bool} {A : Option Addr} {c : Nat} {M : IL} (h : Own w 4 v (bls b)) (hR : RdK w A 1 M.length (ilv M)) (hX : ∀ x ∈ M, Rd w x.1 (ints .i64 x.2.2)) (hb : b.length + (layB ilE M).length ≤ 549755813888) :
    Calls Try.prog 25 #[v, .slice A M.length c] w fun e w' => ∃ v', e = .returned v' ∧ Own w' 4 v' (bls (b ++ layB ilE M)) ∧ Fr No w w' := by
  have hsz := hR.2.1
  unfold layB at hb ⊢
  rw [List.length_append, putBits_length] at hb
  have HP := Lib.hid (rputs_new h [(M.length : Int)] 8 8 rfl (by omega) (by simp) (by simp; omega))
  have HR := Lib.hid hR
  have HB := Lib.hid hb
  have HX := Lib.hid hX
  obtain ⟨n, hn⟩ : ∃ n, M.length = n := ⟨_, rfl⟩
  have HN := Lib.hid hn
  rw [hn] at HP hsz ⊢
  have e1 : numB 8 [(n : Int)] = putBits n 8 := by unfold numB; simp [u64_nat n (by omega)]
  rw [e1] at HP
  clear h hR hX hb hn e1
  go_enter Try.func25, Try.ntmps25
  go_wp2_with fail
  refine HP.out.mono ?_
  rintro e w2 ⟨v1, rfl, O1, F1⟩
  have HO1 := Lib.hid O1
  have HF1 := Lib.hid F1
  clear HP O1 F1
  go_wp2
  go_loopg [0, 5] n (fun gk u i wr => ∃ (k : Nat) (v2 : Value), k + gk = n ∧ v2 = u ∧ i = .int .i64 (k : Int) ∧ Hid (Own wr 4 v2 (bls (b ++ (putBits n 8 ++ (M.take k).flatMap ilE)))) ∧ Hid (Fr No w wr))
  case atStart => exact ⟨0, _, by omega, rfl, rfl, Lib.hid (by rw [List.take_zero, List.flatMap_nil, List.append_nil]; exact HO1.out), HF1⟩
  case round =>
    obtain ⟨k, v2, hk, rfl, rfl, HW, HF⟩ := hrel
    clear HO1 HF1
    by_cases hlt : k < n
    · have hkl : k < M.length := by rw [HN.out]; exact hlt
      obtain ⟨ad, rfl, cx⟩ := ilv_at2 (HR.out.no HF.out) hkl
      have xr := HX.out _ (List.getElem_mem hkl)
      have hsn := flat_snoc ilE M k hkl
      have hle := flat_le2 ilE M k hkl
      obtain ⟨x, hx⟩ : ∃ x, M[k] = x := ⟨_, rfl⟩
      rw [hx] at hsn hle cx xr
      obtain ⟨x0, x1, x2⟩ := x
      simp only at cx xr
      have hil : (ilE (x0, x1, x2)).length = 8 + x2.length * 8 := by
        unfold ilE roE layB
        rw [List.length_append, putBits_length]
        have : (x2.flatMap inE).length = x2.length * 8 := by
          have h1 := numB_length 8 x2
          unfold numB at h1
          rw [← h1]
          rfl
        rw [this]
      rw [hil] at hle
      have hlen : b.length + (8 + ((M.take k).flatMap ilE).length) + (8 + x2.length * 8) ≤ 549755813888 := by have := HB.out; omega
      have hx64 := xr.1
      rw [ints_length] at hx64
      have e1 : numB 8 [(x2.length : Int)] = putBits x2.length 8 := by unfold numB; simp [u64_nat x2.length (by omega)]
      have hP := rputs_new HW.out [(x2.length : Int)] 8 8 rfl (by omega) (by simp) (by simp only [List.length_append, putBits_length, List.length_cons, List.length_nil]; omega)
      rw [e1] at hP
      have HP := Lib.hid hP
      have HXR := Lib.hid (xr.no HF.out)
      have HS := Lib.hid hsn
      have HL := Lib.hid hlen
      have i4 : (k : Int) < (n : Int) := by omega
      have i0 : (0 : Int) ≤ (k : Int) := by omega
      clear hP hx hsn hle hil hlen e1 xr hx64
      go_wp2_with fail
      refine HP.out.mono ?_
      rintro e w3 ⟨v3, rfl, O3, F3⟩
      have cx2 := F3.cell cx (fun k => k)
      have HQ := Lib.hid (rputs_any (c := x1) O3 8 8 rfl (by omega) (HXR.out.no F3) (by have := HL.out; simp only [List.length_append, putBits_length]; omega))
      have H4 := Lib.hid (HF.out.trans F3 (fun _ k => k.elim))
      clear HP cx O3 F3
      go_wp2_with fail
      refine HQ.out.mono ?_
      rintro e w4 ⟨v4, rfl, O4, F4⟩
      have O5 : Own w4 4 v4 (bls (b ++ (putBits n 8 ++ (M.take (k + 1)).flatMap ilE))) := by
        rw [HS.out]
        have e2 : ilE (x0, x1, x2) = putBits x2.length 8 ++ numB 8 x2 := by
          unfold ilE roE layB inE numB
          simp
        rw [e2]
        simpa [List.append_assoc] using O4
      have H5 := Lib.hid O5
      have H6 := Lib.hid (H4.out.trans F4 (fun _ k => k.elim))
      clear HQ cx2 O4 O5 F4
      go_wp2
      go_roundg (n - (k + 1))
      case measure => omega
      case rel => exact ⟨k + 1, v4, by omega, rfl, by go_num, H5, H6⟩
    · obtain rfl : k = n := by omega
      go_wp2
      go_ret
      exact ⟨v2, rfl, by have := HW.out; rw [← HN.out, List.take_length] at this; rw [← HN.out]; exact this, HF.out⟩
end Go.Proofs.Ytfnlimcgoeknjaa
