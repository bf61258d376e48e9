import Derived.Test.YtfnlimcgoeknjaaMakeG
import Derived.Test.YtfnlimcgoeknjaaRefT
namespace Go.Proofs.Ytfnlimcgoeknjaa
open Go.RowKit Go Fl

theorem cut_at (L : Lay) (h : GoodL L) (k : Nat) (hk : k < (pack (layBits L)).length) : decAL (closed ((closed (pack (layBits L))).take k)) = (lnone, if k < 2 then 2 else 4) := by
  have e : (closed (pack (layBits L))).take k = (pack (layBits L)).take k := by unfold closed; rw [List.take_append_of_le_length (by omega)]
  rw [e, decAL_closed]
  by_cases h2 : k < 2
  · rw [if_pos h2, if_neg]
    intro h3
    have := congrArg List.length h3
    rw [List.length_take, List.length_take] at this
    simp at this
    omega
  · rw [if_neg h2, if_pos (by rw [List.take_take, show min 2 k = 2 by omega, pack_take2])]
    have e2 : ((pack (layBits L)).take k).drop 2 = (pack (restBits L)).take (k - 2) := by rw [← pack_letters, List.drop_take]
    rw [e2, dec_cut L h (k - 2) (by rw [← pack_letters, List.length_drop]; omega)]
    rfl
/-- The sentence of a law over a draft: its cells. -/
def dcl (f l s m wt c st j : Nat) (A : Option Addr) (n cc : Nat) : Obj := .cells #[.int .u8 (f : Int), .int .u8 (l : Int), .int .u8 (s : Int), .int .u16 (m : Int), .int .u16 (wt : Int), .int .u8 (c : Int), .int .u8 (st : Int), .int .u8 (j : Int), .slice A n cc] 30

set_option maxRecDepth 20000 in
set_option maxHeartbeats 8000000 in
theorem layoutCut_any {f l s m wt c st j cc : Nat} {A : Option Addr} {R : BS} {w : World} (n : Int) (hn : 0 ≤ n ∧ n < 65536) (hb : f < 256 ∧ l < 256 ∧ s < 256 ∧ m < 65536 ∧ wt < 65536 ∧ c < 256 ∧ st < 256 ∧ j < 256) (hR : Bss w A R) :
    Calls Try.prog 6 #[.agg (dcs f l s m wt c st j A R.length cc), .int .u16 n] w fun e w' => e = .returned (.bool true) ∧ Fr No w w' := by
  unfold dcs
  have F0 := (Fr.refl No w).alloc (dcl f l s m wt c st j A R.length cc)
  have B0 : (w.alloc (dcl f l s m wt c st j A R.length cc)).heap[w.heap.size]? = some (dcl f l s m wt c st j A R.length cc) := blk_new _ _
  unfold dcl at F0 B0
  have HB0 := Lib.hid B0
  have HF0 := Lib.hid F0
  have HR := Lib.hid hR
  clear hR B0 F0
  go_enter Try.func6, Try.ntmps6
  go_wp2_with fail
  refine (bare_law _).mono ?_
  rintro e w1 ⟨rfl, F1⟩
  have G1 := HF0.out.trans F1 (fun _ k => k.elim)
  have HB1 := Lib.hid (F1.heap HB0.out (fun k => k))
  obtain ⟨s0, s1, s2, s3, s4, s5, s6, s7, s8⟩ := nines HB1.out
  have HSM := Lib.hid (rsmall_any (f := f) (l := l) (s := s) (m := m) (wt := wt) (c := c) (st := st) (j := j) (cc := cc) (HR.out.no G1))
  unfold dcs at HSM
  have HG1 := Lib.hid G1
  clear HB0 HF0 F1 G1
  cases hs : small R with
  | false =>
    rw [hs] at HSM
    clear hs
    go_wp2_with fail
    refine HSM.out.mono ?_
    rintro e w2 ⟨rfl, F2⟩
    clear s0 s1 s2 s3 s4 s5 s6 s7 s8
    go_wp2_with fail
    refine (bare_law _).mono ?_
    rintro e w3 ⟨rfl, F3⟩
    go_wp2
    go_ret
    exact ⟨rfl, (HG1.out.trans F2 (fun _ k => k.elim)).trans F3 (fun _ k => k.elim)⟩
  | true =>
    rw [hs] at HSM
    have HS := Lib.hid hs
    clear hs
    go_wp2_with fail
    refine HSM.out.mono ?_
    rintro e w2 ⟨rfl, F2⟩
    have HG2 := Lib.hid (HG1.out.trans F2 (fun _ k => k.elim))
    have HRO := Lib.hid (rrough_any (f := f) (l := l) (s := s) (m := m) (wt := wt) (c := c) (st := st) (j := j) (cc := cc) hb (HR.out.no HG2.out) HS.out)
    unfold dcs at HRO
    have hgd := goodL_mk hb HS.out
    have hbl := bits_mk (f := f) (l := l) (s := s) (m := m) (wt := wt) (c := c) (st := st) (j := j) HS.out
    obtain ⟨L, hL⟩ : ∃ L, mkL f l s m wt c st j (roR R) = L := ⟨_, rfl⟩
    rw [hL] at HRO hgd hbl
    have HGD := Lib.hid hgd
    have HBL := Lib.hid hbl
    have HB2 := Lib.hid (F2.heap HB1.out (fun k => k))
    clear s0 s1 s2 s3 s4 s5 s6 s7 s8 hgd hbl hL
    obtain ⟨s0, s1, s2, s3, s4, s5, s6, s7, s8⟩ := nines HB2.out
    clear F2 HSM HB1 HG1
    go_wp2_with fail
    refine HRO.out.mono ?_
    rintro e w3 ⟨C, rfl, VW, F3⟩
    have HE := Lib.hid (rlencode_any VW.u HGD.out.sized (by have := HBL.out; omega))
    have HG3 := Lib.hid (HG2.out.trans F3 (fun _ k => k.elim))
    obtain ⟨An, cn, As, cs, Ap, cp, Aq, cq, Ar, cr, Mp, Mr, rfl, _⟩ := VW
    clear s0 s1 s2 s3 s4 s5 s6 s7 s8 F3 HRO HG2 HB2
    unfold lcs at HE ⊢
    go_wp2_with fail
    refine HE.out.mono ?_
    rintro e w4 ⟨v4, rfl, O4, _, F4⟩
    obtain ⟨X, hX⟩ : ∃ X, pack (layBits L) = X := ⟨_, rfl⟩
    have hXl : 1 ≤ X.length ∧ X.length ≤ 2000 := by
      have := HBL.out
      rw [← hX, pack_length]
      have h2 : 16 ≤ (layBits L).length := by rw [layBits_rest]; simp [putBits_length]; omega
      omega
    have hcutl := cut_at L HGD.out
    rw [hX] at O4 hcutl
    obtain ⟨N, hN⟩ : ∃ N, X.length = N := ⟨_, rfl⟩
    rw [hN] at hXl hcutl
    have HL := Lib.hid (show (closed X).length = N + 2 by rw [closed_length, hN])
    have HCL := Lib.hid hcutl
    have HG4 := Lib.hid (HG3.out.trans F4 (fun _ k => k.elim))
    obtain ⟨q, c4, hv, hcc, hcm, _, _, _, _, _⟩ := O4.form (by rw [bys_length, HL.out]; omega)
    rw [bys_length, HL.out] at hv hcc
    subst hv
    have R4 := O4.rd.1
    obtain ⟨k, hk⟩ := Int.eq_ofNat_of_zero_le (show 0 ≤ n % (N : Int) from Int.emod_nonneg _ (by omega))
    have hkn : k < N := by
      have := Int.emod_lt_of_pos n (show 0 < (N : Int) by omega)
      omega
    have i0 : IntKind.i64.wrap n = n := by rw [IntKind.wrap_i64]; omega
    have i1 : IntKind.i64.wrap (((N + 2 : Nat) : Int) - 2) = (N : Int) := by rw [IntKind.wrap_i64]; omega
    have i1' : (((N + 2 : Nat) : Int) - 2) = (N : Int) := by omega
    have i2 : n.tmod (N : Int) = (k : Int) := by rw [Int.tmod_eq_emod_of_nonneg hn.1]; exact hk
    have i3 : ¬ (N : Int) = 0 := by omega
    have i4 : IntKind.i64.wrap (k : Int) = (k : Int) := by rw [IntKind.wrap_i64]; omega
    have i5 : (0 : Int) ≤ (k : Int) := by omega
    have i6 : (k : Int) ≤ (c4 : Int) := by omega
    have RT := R4.take k
    have hTn : ((closed X).take k).length = k := by rw [List.length_take, HL.out]; omega
    have HC := Lib.hid (refClose_any (c := c4) RT (fun h => by cases h) (by omega))
    have hdl := HCL.out k hkn
    obtain ⟨Y, hY⟩ : ∃ Y, (closed X).take k = Y := ⟨_, rfl⟩
    rw [hY] at hTn HC hdl
    rw [hTn] at HC
    have hYl : (closed Y).length ≤ 4000 := by rw [closed_length]; omega
    have HDL := Lib.hid hdl
    clear O4 R4 F4 HE HG3 hk RT hY hdl hTn hkn hX hN hcutl
    go_wp2_with fail
    refine HC.out.mono ?_
    rintro e w5 ⟨v5, rfl, O5, _, F5⟩
    obtain ⟨Q5, c5, rfl, _, hc5, R5⟩ := O5.shape2
    rw [bys_length] at hc5 ⊢
    have HD := Lib.hid (ldecode_any R5 hc5 (by omega))
    rw [HDL.out] at HD
    have HG5 := Lib.hid (HG4.out.trans F5 (fun _ k => k.elim))
    clear O5 R5 F5 HC HG4
    simp only at HD
    go_wp2_with fail
    refine HD.out.mono ?_
    rintro e w6 ⟨C6, rfl, V6, F6⟩
    have V6' := V6
    obtain ⟨Bn, dn, Bs, ds, Bp, dp, Bq, dq, Br, dr, Np, Nr, rfl, _⟩ := V6'
    have FA := (Fr.refl No w6).alloc (.cells (lcs Bn lnone.no.length dn Bs lnone.se.length ds Bp (List.length Np) dp Bq lnone.po.length dq Br (List.length Nr) dr lnone.sp lnone.mu lnone.wa lnone.ca lnone.st) 38)
    have HSA := Lib.hid (rlsame_true (V6.fr FA (fun _ _ k => k)) (LayV.zero 0 _) (show Sized lnone from fun x hx => by simp [lnone] at hx))
    obtain ⟨t0, t1, t2, t3, t4, t5, t6, t7, t8, t9⟩ := tens (blk_new w6 (.cells (lcs Bn lnone.no.length dn Bs lnone.se.length ds Bp (List.length Np) dp Bq lnone.po.length dq Br (List.length Nr) dr lnone.sp lnone.mu lnone.wa lnone.ca lnone.st) 38))
    have HG6 := Lib.hid ((HG5.out.trans F6 (fun _ k => k.elim)).trans FA (fun _ k => k.elim))
    clear V6 F6 FA HD HG5
    unfold lcs lz at HSA
    unfold lcs at HG6 t0 t1 t2 t3 t4 t5 t6 t7 t8 t9 ⊢
    unfold lnone at HSA HG6 t0 t1 t2 t3 t4 t5 t6 t7 t8 t9 ⊢
    simp only at HSA HG6 t0 t1 t2 t3 t4 t5 t6 t7 t8 t9 ⊢
    by_cases hk2 : k < 2
    · rw [if_pos hk2]
      have ik : (k : Int) < 2 := by omega
      go_wp2_with fail
      refine HSA.out.mono ?_
      rintro e w7 ⟨rfl, F7⟩
      go_wp2
      go_ret
      exact ⟨rfl, HG6.out.trans F7 (fun _ k => k.elim)⟩
    · rw [if_neg hk2]
      have ik : ¬ (k : Int) < 2 := by omega
      go_wp2_with fail
      refine HSA.out.mono ?_
      rintro e w7 ⟨rfl, F7⟩
      go_wp2
      go_ret
      exact ⟨rfl, HG6.out.trans F7 (fun _ k => k.elim)⟩
end Go.Proofs.Ytfnlimcgoeknjaa
