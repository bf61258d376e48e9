import Derived.Test.YtngjfebndhmlmaaReadsM
import Derived.Test.YtngjfebndhmlmaaEncodeM
namespace Go.Proofs.Ytngjfebndhmlmaa
open Go.RowKit Go

theorem decAll_closed (l : List UInt8) : decAll (closed l) = ((decM l).1, ((decM l).2 : Int)) := by
  unfold decAll
  rw [if_pos (code_closed l), body_closed]
theorem pack_open : pack (mbits ⟨1, 1, 0, 0, 0, false, []⟩) = [32, 128, 0, 0, 0] := by decide +kernel
theorem dec_open : (decM [32, 128, 0, 0, 0]).2 = 0 := by decide +kernel

set_option maxRecDepth 20000 in
set_option maxHeartbeats 4000000 in
theorem open_law (w : World) : Calls Try.prog 9 #[] w fun e w' => e = .returned (.bool true) ∧ Fr No w w' := by
  have HE := Lib.hid (encode_any (m := ⟨1, 1, 0, 0, 0, false, []⟩) (A := none) (c := 0) (w := w) (Rd.nil _ _) (by decide) (by decide))
  rw [pack_open] at HE
  unfold mval at HE
  go_enter Try.func9, Try.ntmps9
  go_wp2_with fail
  refine HE.out.mono ?_
  rintro e w1 ⟨v, rfl, O, N, F⟩
  obtain ⟨q, c, hv, hc, _, _, _, _, hcl, _⟩ := O.form (by rw [bys_length, closed_length]; decide)
  have hlen : (bys (closed [32, 128, 0, 0, 0])).length = 7 := by rw [bys_length, closed_length]; rfl
  rw [hlen] at hv hc
  subst hv
  have R := O.rd.1
  have c0 := hcl 0 (by rw [hlen]; decide)
  have c1 := hcl 1 (by rw [hlen]; decide)
  have e0 : (bys (closed [32, 128, 0, 0, 0])).getD 0 undef = .int .u8 32 := rfl
  have e1 : (bys (closed [32, 128, 0, 0, 0])).getD 1 undef = .int .u8 128 := rfl
  rw [e0] at c0
  rw [e1] at c1
  have HD := Lib.hid (decode_any (c := c) R (by rw [closed_length]; exact hc) (by rw [closed_length]; decide))
  rw [decAll_closed, dec_open] at HD
  rw [show (closed [32, 128, 0, 0, 0]).length = 7 by rw [closed_length]; rfl] at HD
  have HF := Lib.hid F
  clear O N F hcl R hlen e0 e1 HE
  go_wp2_with fail
  refine HD.out.mono ?_
  rintro e w2 ⟨A2, c2, rfl, _, _, F2⟩
  obtain ⟨m, hm⟩ : ∃ m, (decM [32, 128, 0, 0, 0]).1 = m := ⟨_, rfl⟩
  rw [hm]
  have FA := F2.alloc (.cells #[.int .u8 (m.k : Int), .int .i64 m.t, .int .i64 m.tm, .int .i64 m.d, .int .i64 m.a, .bool m.wh, .slice A2 m.tr.length c2] 34)
  have k0 := FA.cell c0 (fun k => k)
  have k1 := FA.cell c1 (fun k => k)
  have HF2 := Lib.hid (HF.out.trans FA (fun _ k => k.elim))
  clear c0 c1 FA F2 HD
  unfold mval
  go_wp2
  go_ret
  exact ⟨rfl, HF2.out⟩

set_option maxRecDepth 20000 in
set_option maxHeartbeats 4000000 in
theorem messageReads_any {A : Option Addr} {c : Nat} {p : List UInt8} {w : World} (hl : Rd w A (bys p)) (hc : p.length ≤ c) (hA : A = none → c = 0) :
    Calls Try.prog 3 #[.slice A p.length c] w fun e w' => e = .returned (.bool true) ∧ Fr No w w' := by
  have HL := Lib.hid hl
  have HA := Lib.hid hA
  clear hl hA
  by_cases h60 : 60 < p.length
  · go_enter Try.func3, Try.ntmps3
    go_wp2_with fail
    refine (open_law _).mono ?_
    rintro e w1 ⟨rfl, F1⟩
    go_wp2
    go_ret
    exact ⟨rfl, F1⟩
  · go_enter Try.func3, Try.ntmps3
    go_wp2_with fail
    refine (open_law _).mono ?_
    rintro e w1 ⟨rfl, F1⟩
    go_wp2_with fail
    refine (reads_any (HL.out.no F1) hc (by omega)).mono ?_
    rintro e w2 ⟨rfl, F2⟩
    have G2 := F1.trans F2 (fun _ k => k.elim)
    go_wp2_with fail
    refine (refClose_any (HL.out.no G2) HA.out (by omega)).mono ?_
    rintro e w3 ⟨v, rfl, O, _, F3⟩
    obtain ⟨Q, d, rfl, hd, _, R⟩ := O.shape
    rw [bys_length] at hd ⊢
    have HRD := Lib.hid (reads_any R hd (by rw [closed_length]; omega))
    have G3 := G2.trans F3 (fun _ k => k.elim)
    clear O R F1 F2 F3 G2
    go_wp2_with fail
    refine HRD.out.mono ?_
    rintro e w4 ⟨rfl, F4⟩
    go_wp2
    go_ret
    exact ⟨rfl, G3.trans F4 (fun _ k => k.elim)⟩

set_option maxRecDepth 20000 in
set_option maxHeartbeats 4000000 in
theorem messageNumbers_any {A : Option Addr} {c : Nat} {tr : List Int} {w : World} (k : Nat) (hk : k < 256) (t tm d a : Int) (hR : Rd w A (ints .i64 tr)) :
    Calls Try.prog 5 #[.int .u8 (k : Int), .int .i64 t, .int .i64 tm, .int .i64 d, .int .i64 a, .slice A tr.length c] w fun e w' => e = .returned (.bool true) ∧ Fr No w w' := by
  have HR := Lib.hid hR
  clear hR
  go_enter Try.func5, Try.ntmps5
  go_wp2_with fail
  refine (open_law _).mono ?_
  rintro e w1 ⟨rfl, F1⟩
  by_cases hl : 15 < tr.length
  · go_wp2_with fail
    refine (open_law _).mono ?_
    rintro e w2 ⟨rfl, F2⟩
    go_wp2
    go_ret
    exact ⟨rfl, F1.trans F2 (fun _ k => k.elim)⟩
  · have FA := F1.alloc (.cells #[.int .u8 (k : Int), .int .i64 t, .int .i64 tm, .int .i64 d, .int .i64 a, .bool false, .slice A tr.length c] 34)
    have B0 : (w1.alloc (.cells #[.int .u8 (k : Int), .int .i64 t, .int .i64 tm, .int .i64 d, .int .i64 a, .bool false, .slice A tr.length c] 34)).heap[w1.heap.size]? = some (.cells #[.int .u8 (k : Int), .int .i64 t, .int .i64 tm, .int .i64 d, .int .i64 a, .bool false, .slice A tr.length c] 34 (0, 0)) := blk_new _ _
    have HE := Lib.hid (encode_any (m := ⟨k, t, tm, d, a, false, tr⟩) (c := c) (HR.out.no FA) hk (by show tr.length ≤ 1000; omega))
    have HB0 := Lib.hid B0
    have HF := Lib.hid FA
    obtain ⟨mb, hmb⟩ : ∃ mb, mbits ⟨k, t, tm, d, a, false, tr⟩ = mb := ⟨_, rfl⟩
    have hlen : (pack mb).length ≤ 1000 := by
      rw [pack_length, ← hmb]
      unfold mbits
      simp only [List.length_append, putBits_length, List.length_nil]
      split <;> split <;> simp only [List.length_append, putBits_length, List.length_cons, List.length_nil, tbits_length] <;> omega
    rw [hmb] at HE
    have HMB := Lib.hid hmb
    unfold mval at HE
    clear FA B0 F1 hmb
    go_wp2_with fail
    refine HE.out.mono ?_
    rintro e w2 ⟨v, rfl, O, _, F2⟩
    obtain ⟨Q, q, rfl, hq, _, R⟩ := O.shape
    rw [bys_length] at hq ⊢
    obtain ⟨q0, q1, q2, q3, q4, q5, q6, _⟩ := seven (F2.heap HB0.out (fun k => k))
    have HF2 := Lib.hid (HF.out.trans F2 (fun _ k => k.elim))
    have HE2 := Lib.hid (refEncode_any (m := ⟨k, t, tm, d, a, false, tr⟩) (c := c) (HR.out.no HF2.out) hk (by show tr.length ≤ 1000; omega))
    rw [HMB.out] at HE2
    unfold mval at HE2
    have HRR := Lib.hid R
    clear O F2 R HE
    go_wp2_with fail
    refine HE2.out.mono ?_
    rintro e w3 ⟨v3, rfl, O3, _, F3⟩
    obtain ⟨Q3, q3', rfl, _, _, R3⟩ := O3.shape
    rw [bys_length]
    have HB := Lib.hid (refBytes_any (c := q) (d := q3') (HRR.out.no F3) R3)
    rw [show decide (closed (pack mb) = closed (pack mb)) = true from decide_eq_true rfl] at HB
    have HF3 := Lib.hid (HF2.out.trans F3 (fun _ k => k.elim))
    have HR3 := Lib.hid (HRR.out.no F3)
    clear O3 F3 R3 HE2 q0 q1 q2 q3 q4 q5 q6
    go_wp2_with fail
    refine HB.out.mono ?_
    rintro e w4 ⟨rfl, F4⟩
    have HRD := Lib.hid (reads_any (c := q) (HR3.out.no F4) hq (by rw [closed_length]; omega))
    have HF4 := Lib.hid (HF3.out.trans F4 (fun _ k => k.elim))
    clear F4 HB
    go_wp2_with fail
    refine HRD.out.mono ?_
    rintro e w5 ⟨rfl, F5⟩
    go_wp2
    go_ret
    exact ⟨rfl, HF4.out.trans F5 (fun _ k => k.elim)⟩
end Go.Proofs.Ytngjfebndhmlmaa
