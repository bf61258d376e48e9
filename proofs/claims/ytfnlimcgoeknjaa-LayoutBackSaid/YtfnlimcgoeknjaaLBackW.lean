import Derived.Test.YtfnlimcgoeknjaaMakeG
import Derived.Test.YtfnlimcgoeknjaaRefT
import Derived.Test.YtfnlimcgoeknjaaLSamW
namespace Go.Proofs.Ytfnlimcgoeknjaa
open Go.RowKit Go Fl

theorem dec_all_back (L : Lay) (h : GoodL L) : decAL (closed (pack (layBits L))) = (L, 0) := by
  rw [decAL_closed, if_pos (pack_take2 L), pack_letters, dec_back L h]
  rfl
def dcl (f l s m wt c st j : Nat) (A : Option Addr) (n cc : Nat) : Obj := .cells #[.int .u8 (f : Int), .int .u8 (l : Int), .int .u8 (s : Int), .int .u16 (m : Int), .int .u16 (wt : Int), .int .u8 (c : Int), .int .u8 (st : Int), .int .u8 (j : Int), .slice A n cc] 30

set_option maxRecDepth 20000 in
set_option maxHeartbeats 8000000 in
theorem layoutBack_any {f l s m wt c st j cc : Nat} {A : Option Addr} {R : BS} {w : World} (hb : f < 256 ∧ l < 256 ∧ s < 256 ∧ m < 65536 ∧ wt < 65536 ∧ c < 256 ∧ st < 256 ∧ j < 256) (hR : Bss w A R) :
    Calls Try.prog 7 #[.agg (dcs f l s m wt c st j A R.length cc)] w fun e w' => e = .returned (.bool true) ∧ Fr No w w' := by
  unfold dcs
  have F0 := (Fr.refl No w).alloc (dcl f l s m wt c st j A R.length cc)
  have B0 : (w.alloc (dcl f l s m wt c st j A R.length cc)).heap[w.heap.size]? = some (dcl f l s m wt c st j A R.length cc) := blk_new _ _
  unfold dcl at F0 B0
  have HB0 := Lib.hid B0
  have HF0 := Lib.hid F0
  have HR := Lib.hid hR
  clear hR B0 F0
  go_enter Try.func7, Try.ntmps7
  go_wp2_with fail
  refine (bare_law _).mono ?_
  rintro e w1 ⟨rfl, F1⟩
  have G1 := HF0.out.trans F1 (fun _ k => k.elim)
  have HB1 := Lib.hid (F1.heap HB0.out (fun k => k))
  obtain ⟨s0, s1, s2, s3, s4, s5, s6, s7, s8⟩ := nines HB1.out
  have HSM := Lib.hid (rsmall_any (f := f) (l := l) (s := s) (m := m) (wt := wt) (c := c) (st := st) (j := j) (cc := cc) (HR.out.no G1))
  unfold dcs at HSM
  have HG1 := Lib.hid G1
  clear HB0 HF0 F1 G1
  cases hs : small R with
  | false =>
    rw [hs] at HSM
    clear hs
    go_wp2_with fail
    refine HSM.out.mono ?_
    rintro e w2 ⟨rfl, F2⟩
    clear s0 s1 s2 s3 s4 s5 s6 s7 s8
    go_wp2_with fail
    refine (bare_law _).mono ?_
    rintro e w3 ⟨rfl, F3⟩
    go_wp2
    go_ret
    exact ⟨rfl, (HG1.out.trans F2 (fun _ k => k.elim)).trans F3 (fun _ k => k.elim)⟩
  | true =>
    rw [hs] at HSM
    have HS := Lib.hid hs
    clear hs
    go_wp2_with fail
    refine HSM.out.mono ?_
    rintro e w2 ⟨rfl, F2⟩
    have HG2 := Lib.hid (HG1.out.trans F2 (fun _ k => k.elim))
    have HRO := Lib.hid (rrough_any (f := f) (l := l) (s := s) (m := m) (wt := wt) (c := c) (st := st) (j := j) (cc := cc) hb (HR.out.no HG2.out) HS.out)
    unfold dcs at HRO
    have hgd := goodL_mk hb HS.out
    have hbl := bits_mk (f := f) (l := l) (s := s) (m := m) (wt := wt) (c := c) (st := st) (j := j) HS.out
    obtain ⟨L, hL⟩ : ∃ L, mkL f l s m wt c st j (roR R) = L := ⟨_, rfl⟩
    rw [hL] at HRO hgd hbl
    have HGD := Lib.hid hgd
    have HBL := Lib.hid hbl
    have HB2 := Lib.hid (F2.heap HB1.out (fun k => k))
    clear s0 s1 s2 s3 s4 s5 s6 s7 s8 hgd hbl hL
    obtain ⟨s0, s1, s2, s3, s4, s5, s6, s7, s8⟩ := nines HB2.out
    clear F2 HSM HB1 HG1
    go_wp2_with fail
    refine HRO.out.mono ?_
    rintro e w3 ⟨C, rfl, VW, F3⟩
    have HVW := Lib.hid VW
    have VU := VW.u
    obtain ⟨An, cn, As, cs, Ap, cp, Aq, cq, Ar, cr, Mp, Mr, rfl, _⟩ := VW
    obtain ⟨O3, hO3⟩ : ∃ O, Obj.cells (lcs An L.no.length cn As L.se.length cs Ap (List.length Mp) cp Aq L.po.length cq Ar (List.length Mr) cr L.sp L.mu L.wa L.ca L.st) 38 = O := ⟨_, rfl⟩
    have FA := (Fr.refl No w3).alloc O3
    have B3 : (w3.alloc O3).heap[w3.heap.size]? = some O3 := blk_new _ _
    have HV4 := Lib.hid (HVW.out.fr FA (fun _ _ k => k))
    have HE := Lib.hid (lencode_any HV4.out.u HGD.out.sized (by have := HBL.out; omega))
    have HG4 := Lib.hid ((HG2.out.trans F3 (fun _ k => k.elim)).trans FA (fun _ k => k.elim))
    obtain ⟨g3, hg3⟩ : ∃ g, w3.heap.size = g := ⟨_, rfl⟩
    rw [hg3] at B3
    rw [← hO3] at B3
    have HB3 := Lib.hid B3
    subst hO3
    clear s0 s1 s2 s3 s4 s5 s6 s7 s8 F3 HRO HG2 HB2 FA VU HVW B3
    unfold lcs at HB3 HG4 HV4 HE ⊢
    obtain ⟨k0, k1, k2, k3, k4, k5, k6, k7, k8, k9⟩ := tens HB3.out
    go_wp2_with fail
    refine HE.out.mono ?_
    rintro e w5 ⟨v5, rfl, O5, _, F5⟩
    obtain ⟨Q5, c5, rfl, hQ5, hc5, R5⟩ := O5.shape2
    rw [bys_length] at hc5 ⊢
    have hXl : (closed (pack (layBits L))).length ≤ 4000 := by have := HBL.out; rw [closed_length, pack_length]; omega
    have HD := Lib.hid (ldecode_any R5 hc5 (by omega))
    rw [dec_all_back L HGD.out] at HD
    simp only at HD
    have HR5 := Lib.hid R5
    have HG5 := Lib.hid (HG4.out.trans F5 (fun _ k => k.elim))
    have HB5 := Lib.hid (F5.heap HB3.out (fun k => k))
    have HV5 := Lib.hid (HV4.out.fr F5 (fun _ _ k => k))
    obtain ⟨X, hX⟩ : ∃ X, closed (pack (layBits L)) = X := ⟨_, rfl⟩
    rw [hX] at HD HR5 hc5 hXl ⊢
    have HXX := Lib.hid hX
    obtain ⟨n, hn⟩ : ∃ n, X.length = n := ⟨_, rfl⟩
    rw [hn] at HD hc5 hXl ⊢
    have HN := Lib.hid hn
    clear O5 R5 F5 HE HG4 HB3 HV4 k0 k1 k2 k3 k4 k5 k6 k7 k8 k9 hQ5 hX hn
    go_wp2_with fail
    refine HD.out.mono ?_
    rintro e w6 ⟨C6, rfl, V6, F6⟩
    have HV6 := Lib.hid V6
    obtain ⟨Bn, dn, Bs, ds, Bp, dp, Bq, dq, Br, dr, Np, Nr, rfl, _⟩ := V6
    obtain ⟨O6, hO6⟩ : ∃ O, Obj.cells #[.slice Bn L.no.length dn, .slice Bs L.se.length ds, .slice Bp (List.length Np) dp, .slice Bq L.po.length dq, .slice Br (List.length Nr) dr, .int .i64 L.sp, .int .i64 L.mu, .int .i64 L.wa, .int .i64 L.ca, .int .i64 L.st] 38 = O := ⟨_, rfl⟩
    have FA := F6.alloc O6
    have B6 : (w6.alloc O6).heap[w6.heap.size]? = some O6 := blk_new _ _
    have HV7 := Lib.hid (HV6.out.fr ((Fr.refl No w6).alloc O6) (fun _ _ k => k))
    have HL7 := Lib.hid (HV5.out.fr FA (fun _ _ k => k))
    have HB7 := Lib.hid (FA.heap HB5.out (fun k => k))
    have HR7 := Lib.hid (HR5.out.no FA)
    have HE2 := Lib.hid (rlencode_any HL7.out.u HGD.out.sized (by have := HBL.out; omega))
    have HG7 := Lib.hid (HG5.out.trans FA (fun _ k => k.elim))
    obtain ⟨g6, hg6⟩ : ∃ g, w6.heap.size = g := ⟨_, rfl⟩
    rw [hg6, ← hO6] at B6
    have HB6 := Lib.hid B6
    subst hO6
    obtain ⟨k0, k1, k2, k3, k4, k5, k6, k7, k8, k9⟩ := tens HB7.out
    clear FA B6 HV5 HB5 HR5 F6 HD HG5 HV6
    unfold lcs at HV7 ⊢
    go_wp2_with fail
    refine HE2.out.mono ?_
    rintro e w8 ⟨v8, rfl, O8, _, F8⟩
    obtain ⟨Q8, c8, rfl, _, _, R8⟩ := O8.shape2
    rw [HXX.out] at R8 ⊢
    rw [bys_length, HN.out]
    have HBY := Lib.hid (refBytes_any (c := c5) (d := c8) (HR7.out.no F8) R8)
    rw [decide_eq_true rfl, HN.out] at HBY
    have HG8 := Lib.hid (HG7.out.trans F8 (fun _ k => k.elim))
    have F78 := Lib.hid F8
    clear O8 R8 F8 HE2 HR7 k0 k1 k2 k3 k4 k5 k6 k7 k8 k9
    go_wp2_with fail
    refine HBY.out.mono ?_
    rintro e w9 ⟨rfl, F9⟩
    have G9 := F78.out.trans F9 (fun _ k => k.elim)
    have HS9 := Lib.hid (lsame_any (HL7.out.v.fr G9 (fun _ _ k => k)) (HV7.out.fr G9 (fun _ _ k => k)) HGD.out.sized HGD.out.sized)
    rw [(sameL_iff L L).2 rfl] at HS9
    obtain ⟨k0, k1, k2, k3, k4, k5, k6, k7, k8, k9⟩ := tens (G9.heap HB7.out (fun k => k))
    obtain ⟨t0, t1, t2, t3, t4, t5, t6, t7, t8, t9⟩ := tens (G9.heap HB6.out (fun k => k))
    have HG9 := Lib.hid G9
    clear F9 G9 HBY F78 HG8
    go_wp2_with fail
    refine HS9.out.mono ?_
    rintro e w10 ⟨rfl, F10⟩
    have G10 := HG9.out.trans F10 (fun _ k => k.elim)
    have HS10 := Lib.hid (rlsame_true (HL7.out.v.fr G10 (fun _ _ k => k)) (HV7.out.fr G10 (fun _ _ k => k)) HGD.out.sized)
    clear k0 k1 k2 k3 k4 k5 k6 k7 k8 k9 t0 t1 t2 t3 t4 t5 t6 t7 t8 t9
    obtain ⟨k0, k1, k2, k3, k4, k5, k6, k7, k8, k9⟩ := tens (G10.heap HB7.out (fun k => k))
    obtain ⟨t0, t1, t2, t3, t4, t5, t6, t7, t8, t9⟩ := tens (G10.heap HB6.out (fun k => k))
    have HG10 := Lib.hid G10
    clear F10 G10 HS9
    go_wp2_with fail
    refine HS10.out.mono ?_
    rintro e w11 ⟨rfl, F11⟩
    go_wp2
    go_ret
    exact ⟨rfl, (HG7.out.trans HG10.out (fun _ k => k.elim)).trans F11 (fun _ k => k.elim)⟩
end Go.Proofs.Ytfnlimcgoeknjaa
