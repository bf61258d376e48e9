import Derived.Test.YtfnlimcgoeknjaaLawsL
namespace Go.Proofs.Ytfnlimcgoeknjaa
open Go.RowKit Go Fl

set_option maxRecDepth 20000 in
set_option maxHeartbeats 4000000 in
theorem layoutReads_any {A : Option Addr} {c : Nat} {p : List UInt8} {w : World} (hl : Rd w A (bys p)) (hc : p.length ≤ c) (hA : A = none → c = 0) :
    Calls Try.prog 3 #[.slice A p.length c] w fun e w' => e = .returned (.bool true) ∧ Fr No w w' := by
  have HL := Lib.hid hl
  have HA := Lib.hid hA
  clear hl hA
  by_cases h200 : 200 < p.length
  · go_enter Try.func3, Try.ntmps3
    go_wp2_with fail
    refine (bare_law _).mono ?_
    rintro e w1 ⟨rfl, F1⟩
    go_wp2_with fail
    refine (bare_law _).mono ?_
    rintro e w2 ⟨rfl, F2⟩
    go_wp2
    go_ret
    exact ⟨rfl, F1.trans F2 (fun _ k => k.elim)⟩
  · go_enter Try.func3, Try.ntmps3
    go_wp2_with fail
    refine (bare_law _).mono ?_
    rintro e w1 ⟨rfl, F1⟩
    go_wp2_with fail
    refine (reads_any (HL.out.no F1) hc (by omega)).mono ?_
    rintro e w2 ⟨rfl, F2⟩
    have G2 := F1.trans F2 (fun _ k => k.elim)
    go_wp2_with fail
    refine (refClose_any (HL.out.no G2) HA.out (by omega)).mono ?_
    rintro e w3 ⟨v, rfl, O, _, F3⟩
    obtain ⟨Q, d, rfl, hd, _, R⟩ := O.shape
    rw [bys_length] at hd ⊢
    have HRD := Lib.hid (reads_any R hd (by rw [closed_length]; omega))
    have G3 := G2.trans F3 (fun _ k => k.elim)
    have HG3 := Lib.hid G3
    clear O R F1 F2 F3 G2 G3
    go_wp2_with fail
    refine HRD.out.mono ?_
    rintro e w4 ⟨rfl, F4⟩
    have HG4 := Lib.hid (HG3.out.trans F4 (fun _ k => k.elim))
    have FA := (Fr.refl No w4).alloc (.cells #[.int .u8 66, .int .u8 76] 5 (2, 3))
    have kc := Lib.run_convert_bytes_const (P := Try.prog) w4 22 5 #[.int .u8 66, .int .u8 76] 2 2 Try.underlying22 Try.underlying5
    have kc2 : (convert 22 22 (.slice (some ⟨w4.heap.size, 0, none⟩) 2 2)).run Try.prog (w4.alloc (.cells #[.int .u8 66, .int .u8 76] 5)) = .ok (.slice (some ⟨w4.heap.size, 0, none⟩) 2 2) (w4.alloc (.cells #[.int .u8 66, .int .u8 76] 5 (2, 3))) := kc
    clear kc
    have RB : Rd (w4.alloc (.cells #[.int .u8 66, .int .u8 76] 5 (2, 3))) (some ⟨w4.heap.size, 0, none⟩) (bys [66, 76]) := rd_lit w4 [66, 76] (2, 3) (by decide)
    have HJ := Lib.hid (join_any (c := 2) (d := c) RB (HL.out.no (HG4.out.trans FA (fun _ k => k.elim))) (fun h => by cases h) HA.out (by simp; omega))
    have HGA := Lib.hid (HG4.out.trans FA (fun _ k => k.elim))
    clear F4 FA RB HRD HG3 HG4
    go_wp2_with fail
    refine HJ.out.mono ?_
    rintro e w5 ⟨v5, rfl, O5, _, F5⟩
    clear kc2
    obtain ⟨Q5, d5, rfl, hd5, hn5, R5⟩ := O5.shape
    have hnil : Q5 = none → d5 = 0 := by
      obtain ⟨A4, c4, e, h4, _, _⟩ := O5.shape2
      injection e with e1 _ e2
      subst e1 e2
      exact h4
    rw [bys_length] at hd5 ⊢
    have HCL := Lib.hid (refClose_any (c := d5) R5 hnil (by simp; omega))
    have HG5 := Lib.hid (HGA.out.trans F5 (fun _ k => k.elim))
    clear O5 R5 F5 hn5 hnil HJ HGA
    go_wp2_with fail
    refine HCL.out.mono ?_
    rintro e w6 ⟨v6, rfl, O6, _, F6⟩
    obtain ⟨Q6, d6, rfl, hd6, _, R6⟩ := O6.shape
    rw [bys_length] at hd6 ⊢
    have HR6 := Lib.hid (reads_any R6 hd6 (by rw [closed_length]; simp; omega))
    have HG6 := Lib.hid (HG5.out.trans F6 (fun _ k => k.elim))
    clear O6 R6 F6 HCL HG5
    go_wp2_with fail
    refine HR6.out.mono ?_
    rintro e w7 ⟨rfl, F7⟩
    go_wp2
    go_ret
    exact ⟨rfl, HG6.out.trans F7 (fun _ k => k.elim)⟩
end Go.Proofs.Ytfnlimcgoeknjaa
