import Derived.Test.YtfnlimcgoeknjaaEqL
namespace Go.Proofs.Ytfnlimcgoeknjaa
open Go.RowKit Go Fl

/-- Are two layouts alike? -/
def sameL (L M : Lay) : Bool := decide ((L.sp = M.sp ∧ L.mu = M.mu ∧ L.wa = M.wa ∧ L.ca = M.ca ∧ L.st = M.st) ∧ L.no = M.no ∧ L.se = M.se ∧ L.pa = M.pa ∧ L.po = M.po ∧ L.ro = M.ro)
theorem sameL_iff (L M : Lay) : sameL L M = true ↔ L = M := by
  unfold sameL
  rw [decide_eq_true_iff]
  obtain ⟨a1, a2, a3, a4, a5, a6, a7, a8, a9, a10⟩ := L
  obtain ⟨b1, b2, b3, b4, b5, b6, b7, b8, b9, b10⟩ := M
  simp only [Lay.mk.injEq]
  constructor
  · rintro ⟨⟨h6, h7, h8, h9, h10⟩, h1, h2, h3, h4, h5⟩; exact ⟨h1, h2, h3, h4, h5, h6, h7, h8, h9, h10⟩
  · rintro ⟨h1, h2, h3, h4, h5, h6, h7, h8, h9, h10⟩; exact ⟨⟨h6, h7, h8, h9, h10⟩, h1, h2, h3, h4, h5⟩
theorem sameL_no {L M : Lay} (h : ¬ ((L.sp = M.sp ∧ L.mu = M.mu ∧ L.wa = M.wa ∧ L.ca = M.ca ∧ L.st = M.st) ∧ L.no = M.no ∧ L.se = M.se ∧ L.pa = M.pa ∧ L.po = M.po ∧ L.ro = M.ro)) : sameL L M = false := decide_eq_false h
theorem sameL_yes {L M : Lay} (h : (L.sp = M.sp ∧ L.mu = M.mu ∧ L.wa = M.wa ∧ L.ca = M.ca ∧ L.st = M.st) ∧ L.no = M.no ∧ L.se = M.se ∧ L.pa = M.pa ∧ L.po = M.po ∧ L.ro = M.ro) : sameL L M = true := decide_eq_true h
theorem five_way (a1 a2 a3 a4 a5 b1 b2 b3 b4 b5 : Int) : (a1 = b1 ∧ a2 = b2 ∧ a3 = b3 ∧ a4 = b4 ∧ a5 = b5) ∨ (¬ a1 = b1) ∨ (a1 = b1 ∧ ¬ a2 = b2) ∨ (a1 = b1 ∧ a2 = b2 ∧ ¬ a3 = b3) ∨ (a1 = b1 ∧ a2 = b2 ∧ a3 = b3 ∧ ¬ a4 = b4) ∨ (a1 = b1 ∧ a2 = b2 ∧ a3 = b3 ∧ a4 = b4 ∧ ¬ a5 = b5) := by omega

set_option maxRecDepth 100000 in
set_option maxHeartbeats 8000000 in
/-- layout.Same decides. -/
theorem lsame_any {b b' : Nat} {L M : Lay} {C D : Array Value} {w : World} (hC : LayV b w L C) (hD : LayV b' w M D) (hS : Sized L) (hT : Sized M) :
    Calls Try.prog 20 #[.agg C, .agg D] w fun e w' => e = .returned (.bool (sameL L M)) ∧ Fr No w w' := by
  obtain ⟨An, cn, As, cs, Ap, cp, Aq, cq, Ar, cr, Mp, Mr, rfl, h1, h2, ⟨h3, h4⟩, h5, h6, h7⟩ := hC
  obtain ⟨Bn, dn, Bs, ds, Bp, dp, Bq, dq, Br, dr, Np, Nr, rfl, k1, k2, ⟨k3, k4⟩, k5, k6, k7⟩ := hD
  unfold lcs
  obtain ⟨O1, hO1⟩ : ∃ o, Obj.cells #[.slice An L.no.length cn, .slice As L.se.length cs, .slice Ap (List.length Mp) cp, .slice Aq L.po.length cq, .slice Ar (List.length Mr) cr, .int .i64 L.sp, .int .i64 L.mu, .int .i64 L.wa, .int .i64 L.ca, .int .i64 L.st] 38 = o := ⟨_, rfl⟩
  obtain ⟨O2, hO2⟩ : ∃ o, Obj.cells #[.slice Bn M.no.length dn, .slice Bs M.se.length ds, .slice Bp (List.length Np) dp, .slice Bq M.po.length dq, .slice Br (List.length Nr) dr, .int .i64 M.sp, .int .i64 M.mu, .int .i64 M.wa, .int .i64 M.ca, .int .i64 M.st] 38 = o := ⟨_, rfl⟩
  obtain ⟨W2, hW2⟩ : ∃ W, (w.alloc O1).alloc O2 = W := ⟨_, rfl⟩
  have f12 : Fr No w W2 := by rw [← hW2]; exact ((Fr.refl No w).alloc _).alloc _
  have b1 : W2.heap[w.heap.size]? = some O1 := by rw [← hW2]; exact blk_alloc (blk_new w O1) O2
  have b2 : W2.heap[w.heap.size + 1]? = some O2 := by
    rw [← hW2]
    have := blk_new (w.alloc O1) O2
    rwa [show (w.alloc O1).heap.size = w.heap.size + 1 by simp] at this
  obtain ⟨g, hg⟩ : ∃ g, w.heap.size = g := ⟨_, rfl⟩
  rw [hg] at b1 b2
  rw [← hO1] at b1
  rw [← hO2] at b2
  have HB1 := Lib.hid b1
  have HB2 := Lib.hid b2
  have HF := Lib.hid f12
  have E1 := Lib.hid (fun W (f : Fr No W2 W) => slicesC_any (c := cn) (d := dn) ((h1.rd.no f12).no f) ((k1.rd.no f12).no f) hS hT)
  have E2 := Lib.hid (fun W (f : Fr No W2 W) => slicesS_any (c := cs) (d := ds) ((h2.rd.no f12).no f) ((k2.rd.no f12).no f))
  have E3 := Lib.hid (fun W (f : Fr No W2 W) => slicesR_any (c := cp) (d := dp) (h3.fr (f12.trans f (fun _ k => k.elim)) (fun _ _ k => k)) (k3.fr (f12.trans f (fun _ k => k.elim)) (fun _ _ k => k)))
  have E4 := Lib.hid (fun W (f : Fr No W2 W) => slicesP_any (c := cq) (d := dq) ((h5.rd.no f12).no f) ((k5.rd.no f12).no f))
  have E5 := Lib.hid (fun W (f : Fr No W2 W) => slicesR_any (c := cr) (d := dr) (h6.fr (f12.trans f (fun _ k => k.elim)) (fun _ _ k => k)) (k6.fr (f12.trans f (fun _ k => k.elim)) (fun _ _ k => k)))
  rw [h4, k4] at E3
  rw [h7, k7] at E5
  obtain ⟨c0, c1, c2, c3, c4, c5, c6, c7, c8, c9⟩ := tens b1
  obtain ⟨d0, d1, d2, d3, d4, d5, d6, d7, d8, d9⟩ := tens b2
  have h5w := five_way L.sp L.mu L.wa L.ca L.st M.sp M.mu M.wa M.ca M.st
  clear h1 h2 h3 h4 h5 h6 h7 k1 k2 k3 k4 k5 k6 k7 b1 b2 f12 hS hT
  subst hO1 hO2
  have NO := fun h => Lib.hid (sameL_no (L := L) (M := M) h)
  have YES := fun h => Lib.hid (sameL_yes (L := L) (M := M) h)
  have HNO := Lib.hid NO
  have HYES := Lib.hid YES
  clear NO YES
  obtain ⟨r, hr⟩ : ∃ r, sameL L M = r := ⟨_, rfl⟩
  rw [hr] at HNO HYES
  rw [hr]
  clear hr
  rcases h5w with ⟨e1, e2, e3, e4, e5⟩ | hf | ⟨e1, hf⟩ | ⟨e1, e2, hf⟩ | ⟨e1, e2, e3, hf⟩ | ⟨e1, e2, e3, e4, hf⟩
  case inl =>
    have HT := Lib.hid (And.intro e1 (And.intro e2 (And.intro e3 (And.intro e4 e5))))
    rw [e1] at HB1 c5
    rw [e2] at HB1 c6
    rw [e3] at HB1 c7
    rw [e4] at HB1 c8
    rw [e5] at HB1 c9
    clear e1 e2 e3 e4 e5
    go_enter Try.func20, Try.ntmps20
    have FR0 := Fr.refl No W2
    by_cases q0 : L.no = M.no
    case neg =>
      have hr : r = false := (HNO.out (fun h => q0 h.2.1)).out
      subst hr
      have EC := E1.out _ FR0
      rw [decide_eq_false q0] at EC
      have HEC := Lib.hid EC
      clear EC q0
      go_wp2_with fail
      refine HEC.out.mono ?_
      rintro e wz ⟨rfl, Fz⟩
      go_wp2
      go_ret
      exact ⟨rfl, (HF.out.trans FR0 (fun _ k => k.elim)).trans Fz (fun _ k => k.elim)⟩
    have EC0 := E1.out _ FR0
    rw [decide_eq_true q0] at EC0
    have HEC0 := Lib.hid EC0
    have Q0 := Lib.hid q0
    clear EC0 q0
    go_wp2_with fail
    refine HEC0.out.mono ?_
    rintro e wa0 ⟨rfl, Fa0⟩
    have FR1 := FR0.trans Fa0 (fun _ k => k.elim)
    have c1 := (tens (FR1.heap HB1.out (fun k => k))).2.1
    have d1 := (tens (FR1.heap HB2.out (fun k => k))).2.1
    by_cases q1 : L.se = M.se
    case neg =>
      have hr : r = false := (HNO.out (fun h => q1 h.2.2.1)).out
      subst hr
      have EC := E2.out _ FR1
      rw [decide_eq_false q1] at EC
      have HEC := Lib.hid EC
      clear EC q1
      go_wp2_with fail
      refine HEC.out.mono ?_
      rintro e wz ⟨rfl, Fz⟩
      go_wp2
      go_ret
      exact ⟨rfl, (HF.out.trans FR1 (fun _ k => k.elim)).trans Fz (fun _ k => k.elim)⟩
    have EC1 := E2.out _ FR1
    rw [decide_eq_true q1] at EC1
    have HEC1 := Lib.hid EC1
    have Q1 := Lib.hid q1
    clear EC1 q1
    go_wp2_with fail
    refine HEC1.out.mono ?_
    rintro e wa1 ⟨rfl, Fa1⟩
    have FR2 := FR1.trans Fa1 (fun _ k => k.elim)
    have c2 := (tens (FR2.heap HB1.out (fun k => k))).2.2.1
    have d2 := (tens (FR2.heap HB2.out (fun k => k))).2.2.1
    by_cases q2 : L.pa = M.pa
    case neg =>
      have hr : r = false := (HNO.out (fun h => q2 h.2.2.2.1)).out
      subst hr
      have EC := E3.out _ FR2
      rw [decide_eq_false q2] at EC
      have HEC := Lib.hid EC
      clear EC q2
      go_wp2_with fail
      refine HEC.out.mono ?_
      rintro e wz ⟨rfl, Fz⟩
      go_wp2
      go_ret
      exact ⟨rfl, (HF.out.trans FR2 (fun _ k => k.elim)).trans Fz (fun _ k => k.elim)⟩
    have EC2 := E3.out _ FR2
    rw [decide_eq_true q2] at EC2
    have HEC2 := Lib.hid EC2
    have Q2 := Lib.hid q2
    clear EC2 q2
    go_wp2_with fail
    refine HEC2.out.mono ?_
    rintro e wa2 ⟨rfl, Fa2⟩
    have FR3 := FR2.trans Fa2 (fun _ k => k.elim)
    have c3 := (tens (FR3.heap HB1.out (fun k => k))).2.2.2.1
    have d3 := (tens (FR3.heap HB2.out (fun k => k))).2.2.2.1
    by_cases q3 : L.po = M.po
    case neg =>
      have hr : r = false := (HNO.out (fun h => q3 h.2.2.2.2.1)).out
      subst hr
      have EC := E4.out _ FR3
      rw [decide_eq_false q3] at EC
      have HEC := Lib.hid EC
      clear EC q3
      go_wp2_with fail
      refine HEC.out.mono ?_
      rintro e wz ⟨rfl, Fz⟩
      go_wp2
      go_ret
      exact ⟨rfl, (HF.out.trans FR3 (fun _ k => k.elim)).trans Fz (fun _ k => k.elim)⟩
    have EC3 := E4.out _ FR3
    rw [decide_eq_true q3] at EC3
    have HEC3 := Lib.hid EC3
    have Q3 := Lib.hid q3
    clear EC3 q3
    go_wp2_with fail
    refine HEC3.out.mono ?_
    rintro e wa3 ⟨rfl, Fa3⟩
    have FR4 := FR3.trans Fa3 (fun _ k => k.elim)
    have c4 := (tens (FR4.heap HB1.out (fun k => k))).2.2.2.2.1
    have d4 := (tens (FR4.heap HB2.out (fun k => k))).2.2.2.2.1
    by_cases q4 : L.ro = M.ro
    case neg =>
      have hr : r = false := (HNO.out (fun h => q4 h.2.2.2.2.2)).out
      subst hr
      have EC := E5.out _ FR4
      rw [decide_eq_false q4] at EC
      have HEC := Lib.hid EC
      clear EC q4
      go_wp2_with fail
      refine HEC.out.mono ?_
      rintro e wz ⟨rfl, Fz⟩
      go_wp2
      go_ret
      exact ⟨rfl, (HF.out.trans FR4 (fun _ k => k.elim)).trans Fz (fun _ k => k.elim)⟩
    have EC4 := E5.out _ FR4
    rw [decide_eq_true q4] at EC4
    have HEC4 := Lib.hid EC4
    have Q4 := Lib.hid q4
    clear EC4 q4
    go_wp2_with fail
    refine HEC4.out.mono ?_
    rintro e wa4 ⟨rfl, Fa4⟩
    have FR5 := FR4.trans Fa4 (fun _ k => k.elim)
    have hr : r = true := (HYES.out ⟨HT.out, Q0.out, Q1.out, Q2.out, Q3.out, Q4.out⟩).out
    subst hr
    go_wp2
    go_ret
    exact ⟨rfl, HF.out.trans FR5 (fun _ k => k.elim)⟩
  all_goals
    have hr : r = false := (HNO.out (fun h => by
      have h1 := h.1
      exact hf (by first | exact h1.1 | exact h1.2.1 | exact h1.2.2.1 | exact h1.2.2.2.1 | exact h1.2.2.2.2))).out
    subst hr
    try rw [e1] at c5
    try rw [e2] at c6
    try rw [e3] at c7
    try rw [e4] at c8
    try clear e1
    try clear e2
    try clear e3
    try clear e4
    clear c0 c1 c2 c3 c4 d0 d1 d2 d3 d4
    go_enter Try.func20, Try.ntmps20
    go_wp2
    go_ret
    exact ⟨rfl, HF.out⟩
end Go.Proofs.Ytfnlimcgoeknjaa
