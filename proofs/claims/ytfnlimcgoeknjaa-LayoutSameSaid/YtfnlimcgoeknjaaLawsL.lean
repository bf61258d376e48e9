import Derived.Test.YtfnlimcgoeknjaaSameX
import Derived.Test.YtfnlimcgoeknjaaRefD
import Derived.Test.YtfnlimcgoeknjaaEncT
namespace Go.Proofs.Ytfnlimcgoeknjaa
open Go.RowKit Go Fl

theorem itL_mem {α : Type} (g : Pl → α) (f : Pl → Pl) (s : Pl) (Q : α → Prop) (hQ : ∀ s, Q (g s)) : ∀ n, ∀ x ∈ itL g f s n, Q x
  | 0, x, h => by simp [itL] at h
  | n + 1, x, h => by
    rcases List.mem_append.1 h with h | h
    · exact itL_mem g f s Q hQ n x h
    · simp at h; subst h; exact hQ _
theorem sized_dec (p : List UInt8) : Sized (decAL p).1 := by
  have h0 : Sized lnone := fun x hx => by simp [lnone] at hx
  have h1 : ∀ l, Sized (layOf l) := fun l x hx => by
    have hx2 : x ∈ liL (cxV l) (cxN l) l (0, false) := hx
    exact itL_mem (cxV l) (cxN l) _ (fun x => x.1.natAbs < 2 ^ 53 ∧ x.2.natAbs < 2 ^ 53) (fun s => ⟨sx_abs (gt_lt l s 32), sx_abs (gt_lt l (nx l s 32) 32)⟩) _ x hx2
  unfold decAL
  split
  · split
    · unfold decL
      split
      · exact h0
      · split
        · exact h0
        · exact h1 _
    · exact h0
  · exact h0
theorem decAL_closed (q : List UInt8) : decAL (closed q) = if q.take 2 = [66, 76] then ((decL (q.drop 2)).1, ((decL (q.drop 2)).2 : Int)) else (lnone, 2) := by
  unfold decAL
  rw [if_pos (code_closed q), body_closed]

set_option maxRecDepth 20000 in
set_option maxHeartbeats 8000000 in
theorem reads_any {A : Option Addr} {c : Nat} {p : List UInt8} {w : World} (hl : Rd w A (bys p)) (hc : p.length ≤ c) (hlen : p.length ≤ 1000000) :
    Calls Try.prog 10 #[.slice A p.length c] w fun e w' => e = .returned (.bool true) ∧ Fr No w w' := by
  have HL := Lib.hid hl
  have HD := Lib.hid (ldecode_any hl hc hlen)
  have HS := Lib.hid (sized_dec p)
  obtain ⟨L, hL⟩ : ∃ m, (decAL p).1 = m := ⟨_, rfl⟩
  obtain ⟨k, hk⟩ : ∃ k, (decAL p).2 = k := ⟨_, rfl⟩
  have HLL := Lib.hid hL
  have HK := Lib.hid hk
  rw [hL] at HS
  rw [hL, hk] at HD
  clear hl hL hk
  go_enter Try.func10, Try.ntmps10
  go_wp2_with fail
  refine HD.out.mono ?_
  rintro e w1 ⟨C, rfl, V1, F1⟩
  have V1' := V1
  obtain ⟨An, cn, As, cs, Ap, cp, Aq, cq, Ar, cr, Mp, Mr, rfl, _⟩ := V1'
  obtain ⟨O, hO⟩ : ∃ O, Obj.cells (lcs An L.no.length cn As L.se.length cs Ap (List.length Mp) cp Aq L.po.length cq Ar (List.length Mr) cr L.sp L.mu L.wa L.ca L.st) 38 = O := ⟨_, rfl⟩
  have F1' := F1.alloc O
  have HR := Lib.hid (rldecode_any (HL.out.no F1') hc hlen)
  rw [HLL.out, HK.out] at HR
  have HV1 := Lib.hid (V1.fr ((Fr.refl No w1).alloc O) (fun _ _ k => k))
  have B1 : (w1.alloc O).heap[w1.heap.size]? = some O := blk_new _ _
  rw [← hO] at B1
  obtain ⟨g, hg⟩ : ∃ g, w1.heap.size = g := ⟨_, rfl⟩
  rw [hg] at B1
  have HB1 := Lib.hid B1
  have HF1 := Lib.hid F1'
  subst hO
  clear V1 F1 F1' B1 HD
  unfold lcs at HR HB1 HF1 HV1 ⊢
  go_wp2_with fail
  refine HR.out.mono ?_
  rintro e w2 ⟨D, rfl, V2, F2⟩
  have V2' := V2
  obtain ⟨Bn, dn, Bs, ds, Bp, dp, Bq, dq, Br, dr, Np, Nr, rfl, _⟩ := V2'
  obtain ⟨O2, hO2⟩ : ∃ O, Obj.cells (lcs Bn L.no.length dn Bs L.se.length ds Bp (List.length Np) dp Bq L.po.length dq Br (List.length Nr) dr L.sp L.mu L.wa L.ca L.st) 38 = O := ⟨_, rfl⟩
  have F2' := (Fr.refl No w2).alloc O2
  have HSM := Lib.hid (rlsame_true ((HV1.out.fr F2 (fun _ _ k => k)).fr F2' (fun _ _ k => k)) (V2.fr F2' (fun _ _ k => k)) HS.out)
  obtain ⟨q0, q1, q2, q3, q4, q5, q6, q7, q8, q9⟩ := tens (blk_alloc (F2.heap HB1.out (fun k => k)) O2)
  have HF2 := Lib.hid ((HF1.out.trans F2 (fun _ k => k.elim)).trans F2' (fun _ k => k.elim))
  subst hO2
  clear V2 F2 F2' HR HB1
  unfold lcs at HSM HF2 q0 q1 q2 q3 q4 q5 q6 q7 q8 q9 ⊢
  go_wp2_with fail
  refine HSM.out.mono ?_
  rintro e w3 ⟨rfl, F3⟩
  go_wp2
  go_ret
  exact ⟨rfl, HF2.out.trans F3 (fun _ k => k.elim)⟩

/-- The example's layout. -/
def l7 : Lay := ⟨[], [], [], [], [], 7, 0, 0, 0, 0⟩
theorem pack7_take : (pack (layBits l7)).take 2 = [66, 76] := by decide +kernel
theorem dec7 : (decL ((pack (layBits l7)).drop 2)).2 = 0 ∧ (decL ((pack (layBits l7)).drop 2)).1.sp = 7 := by decide +kernel
theorem len7 : (layBits l7).length ≤ 1000000 := by decide +kernel
theorem dec_none : (decAL []).2 = 4 := by decide +kernel

set_option maxRecDepth 20000 in
set_option maxHeartbeats 8000000 in
theorem bare_law (w : World) : Calls Try.prog 9 #[] w fun e w' => e = .returned (.bool true) ∧ Fr No w w' := by
  have HD := Lib.hid (ldecode_any (A := none) (c := 0) (p := []) (w := w) (Rd.nil _ _) (by simp) (by simp))
  rw [dec_none] at HD
  simp only [List.length_nil] at HD
  go_enter Try.func9, Try.ntmps9
  go_wp2_with fail
  refine HD.out.mono ?_
  rintro e w1 ⟨C, rfl, V1, F1⟩
  obtain ⟨An, cn, As, cs, Ap, cp, Aq, cq, Ar, cr, Mp, Mr, rfl, _⟩ := V1
  obtain ⟨L, hL⟩ : ∃ m, (decAL []).1 = m := ⟨_, rfl⟩
  rw [hL] at *
  obtain ⟨O, hO⟩ : ∃ O, Obj.cells (lcs An L.no.length cn As L.se.length cs Ap (List.length Mp) cp Aq L.po.length cq Ar (List.length Mr) cr L.sp L.mu L.wa L.ca L.st) 38 = O := ⟨_, rfl⟩
  have HF1 := Lib.hid (F1.alloc O)
  have HU : LayU (w1.alloc O) l7 #[.slice none 0 0, .slice none 0 0, .slice none 0 0, .slice none 0 0, .slice none 0 0, .int .i64 7, .int .i64 0, .int .i64 0, .int .i64 0, .int .i64 0] :=
    ⟨none, 0, none, 0, none, 0, none, 0, none, 0, [], [], rfl, ⟨RdK.nil _ _ _, fun _ e => by cases e⟩, ⟨RdK.nil _ _ _, fun _ e => by cases e⟩, ⟨Rd2.nil _ _, fun _ e => (by cases e), by simp, rfl⟩, ⟨RdK.nil _ _ _, fun _ e => by cases e⟩, Rd2.nil _ _, fun _ e => (by cases e), by simp, rfl⟩
  have HE := Lib.hid (lencode_any HU (by simp [l7]) len7)
  subst hO
  clear F1 HD HU
  unfold lcs at HE HF1 ⊢
  go_wp2_with fail
  refine HE.out.mono ?_
  rintro e w2 ⟨v, rfl, O2, _, F2⟩
  obtain ⟨Q, d, rfl, hd, _, R⟩ := O2.shape
  rw [bys_length] at hd ⊢
  have HD2 := Lib.hid (ldecode_any R hd (by rw [closed_length, pack_length]; have := len7; omega))
  rw [decAL_closed, if_pos pack7_take, dec7.1] at HD2
  have HF2 := Lib.hid (HF1.out.trans F2 (fun _ k => k.elim))
  clear O2 R F2 HE HF1
  go_wp2_with fail
  refine HD2.out.mono ?_
  rintro e w3 ⟨C3, rfl, V3, F3⟩
  obtain ⟨Bn, dn, Bs, ds, Bp, dp, Bq, dq, Br, dr, Np, Nr, rfl, _⟩ := V3
  have h7 := dec7.2
  obtain ⟨L2, hL2⟩ : ∃ m, (decL ((pack (layBits l7)).drop 2)).1 = m := ⟨_, rfl⟩
  rw [hL2] at h7 ⊢
  rw [h7]
  have HF3 := Lib.hid (HF2.out.trans F3 (fun _ k => k.elim))
  clear F3 HF2 HD2 hL2 h7
  unfold lcs
  go_wp2
  go_ret
  refine ⟨rfl, ?_⟩
  first | exact HF3.out.alloc _ | exact (HF3.out.alloc _).drewN _
end Go.Proofs.Ytfnlimcgoeknjaa
