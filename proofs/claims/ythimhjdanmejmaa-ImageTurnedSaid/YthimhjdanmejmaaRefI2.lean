import Derived.Test.YthimhjdanmejmaaDecI
namespace Go.Proofs.Ythimhjdanmejmaa
open Go.RowKit Go

theorem infoLock15 : (Try.prog.info? 43).map (fun i => (i.zero, i.size, i.bytes)) = some (some (.agg #[.int .i64 0, .int .i64 0, .int .i64 0, .slice none 0 0]), 4, 48) := by kernel_rfl
/-- Rows are as they were, where only blocks were turned that are none of theirs. -/
theorem Rows.fr' {S : Nat → Prop} {w0 w w1 : World} {e : TypeId} {v : Value} {M : List LkM} (h : Rows w0 w e v M) (hf : Fr S w w1) (hs : ∀ k, S k → v.ownBlock ≠ some k ∧ ∀ x ∈ M, ∀ ad, x.2.1 = some ad → ad.block ≠ k) : Rows w0 w1 e v M :=
  ⟨h.own.fr hf (fun k hk hS => (hs k hS).1 hk), h.old, fun x hx => ⟨(h.rd x hx).1.fr hf (fun ad e hS => (hs _ hS).2 x hx ad e rfl), fun ad e => ⟨((h.rd x hx).2 ad e).1, ((h.rd x hx).2 ad e).2.1, Nat.lt_of_lt_of_le ((h.rd x hx).2 ad e).2.2 hf.size⟩⟩⟩

theorem after_in {w wa w4 : World} {h2 r : Nat} {v v4 : Value} {C5 Y : Obj} {l : List UInt8} {s : Pl} {e : TypeId} {xs : List Value} {n : Nat} (hn : xs.length = n) (NA : ∀ k, v.ownBlock = some k → h2 < k) (hrh : r < h2) (hh2 : w.heap.size ≤ h2)
    (IA : InAt wa r (fun k => k < r) l s) (Fa : Fr (RS r) w wa) (b5 : wa.heap[h2]? = some C5) (o4 : Own w4 e v4 xs) (f4 : Fr (fun k => v.ownBlock = some k) (wa.alloc Y) w4)
    (a4 : v4.ownBlock = v.ownBlock ∨ ∃ b, v4.ownBlock = some b ∧ (wa.alloc Y).heap.size ≤ b) :
    ∃ A4 c4, v4 = .slice A4 n c4 ∧ w4.heap[h2]? = some C5 ∧ InAt w4 r (fun k => k < r) l s ∧ Fr (RS r) w w4 ∧ (∀ k, v4.ownBlock = some k → h2 < k) ∧ Fr (fun k => v.ownBlock = some k) wa w4 := by
  obtain ⟨A4, c4, hv4, _, _, _⟩ := o4.shape
  rw [hn] at hv4
  have f5 : Fr (fun k => v.ownBlock = some k) wa w4 := ((Fr.refl No wa).alloc Y).no.trans f4 (fun i hi => .inl hi)
  refine ⟨A4, c4, hv4, f5.heap b5 (fun e => by have := NA _ e; omega), IA.fr f5 (fun e => by have := NA _ e; omega) (fun k hk e => by have := NA _ e; have hk2 : k < r := hk; omega), Fa.trans f5 (fun i hi => .inr (by have := NA _ hi; omega)), ?_, f5⟩
  intro k hk
  rcases a4 with e | ⟨b, e, hb⟩
  · rw [e] at hk; exact NA k hk
  · rw [e] at hk; cases hk
    have h1 : wa.heap.size ≤ (wa.alloc Y).heap.size := by simp
    have h2 := blk_lt b5
    omega

set_option maxRecDepth 20000 in
set_option maxHeartbeats 4000000 in
theorem refDecode_any {A : Option Addr} {c : Nat} {p : List UInt8} {w : World} (hl : Rd w A (bys p)) (hc : p.length ≤ c) (hlen : p.length ≤ 1000000) :
    Calls Try.prog 13 #[.slice A p.length c] w fun e w' => ∃ v M, e = .returned (.tuple #[v, .int .i64 (decIAll p).2]) ∧ M.map Prod.fst = (decIAll p).1 ∧ Rows w w' 43 v M ∧ Fr No w w' := by
  have HO := Lib.hid (refOpen_any hl hc (by omega))
  have hbl : (body p).length ≤ p.length := by unfold body; split <;> simp
  clear hl
  go_enter Try.func13, Try.ntmps13
  go_wp2_with fail
  refine HO.out.mono ?_
  rintro e w1 ⟨Q, cq, rfl, R, F1⟩
  by_cases h0 : code p = 0
  · obtain ⟨l, hll⟩ : ∃ l, body p = l := ⟨_, rfl⟩
    have hD : Hid (decIAll p = ((decI l).1, ((decI l).2 : Int))) := by show decIAll p = _; unfold decIAll; rw [if_pos h0, hll]
    rw [h0]
    rw [hll] at R hbl ⊢
    have HOF := Lib.hid (refOf_any (c := cq) (R.no F1) (by omega))
    have HF1 := Lib.hid F1
    clear F1 R h0 HO hll
    go_wp2_with fail
    refine HOF.out.mono ?_
    rintro e w3 ⟨v3, rfl, O3, N3, F3⟩
    obtain ⟨C, c3, rfl, hCc, hC, R3⟩ := O3.shape
    have hnil : C = none → c3 = 0 := by
      obtain ⟨A4, c4, e, h4, _, _⟩ := O3.shape2
      injection e with e1 _ e2
      subst e1 e2
      exact h4
    have hcsm : c3 ≤ 9223372036854775807 := by
      rcases O3.2 with ⟨h1, _⟩ | ⟨g', cap, cur, h1, _, _, _, hm, _⟩
      · injection h1 with _ _ h3; omega
      · injection h1 with _ _ h3
        simp only [maxLen] at hm
        omega
    rw [bls_length] at hCc ⊢
    have hClt : ∀ ad, C = some ad → ad.block < w3.heap.size := fun ad e => O3.lt (hC ad e)
    obtain ⟨Z3, hZ3⟩ : ∃ Z3, Obj.cells #[.slice C (ofBytes l).length c3, .bool false] 68 = Z3 := ⟨_, rfl⟩
    obtain ⟨r, hr⟩ : ∃ r, w3.heap.size = r := ⟨_, rfl⟩
    have I0 : InAt (w3.alloc Z3) r (fun k => k < r) l (0, false) := by
      rw [← hr]
      refine ⟨C, c3, ofBytes l, ⟨by rw [← hZ3]; exact blk_new _ _, R3.no ((Fr.refl No w3).alloc _), hCc, hnil, fun ad e => by have := hClt ad e; omega, hcsm⟩, by unfold Both; simp, fun ad e => hClt ad e⟩
    have HF2 := Lib.hid (HF1.out.trans (F3.alloc Z3) (fun _ k => k.elim))
    have hrw : Hid (w.heap.size ≤ r) := by show w.heap.size ≤ r; rw [← hr]; exact Nat.le_trans HF1.out.size F3.size
    have HG := Lib.hid (iget_at I0 8 8 rfl (by omega))
    have hrl : Hid (r < (w3.alloc Z3).heap.size) := I0.lt
    have nlt := gt_lt l (0, false) 8
    unfold decI at hD
    obtain ⟨n, hn⟩ : ∃ n, gt l (0, false) 8 = n := ⟨_, rfl⟩
    obtain ⟨s1, hs1⟩ : ∃ s1, nx l (0, false) 8 = s1 := ⟨_, rfl⟩
    rw [hn, hs1] at HG hD
    rw [hn] at nlt
    have i0 : IntKind.i64.wrap (n : Int) = (n : Int) := by rw [IntKind.wrap_i64]; omega
    subst hZ3
    clear O3 N3 F3 R3 hnil hCc hClt hC hcsm I0 HOF HF1 hn hs1
    go_wp2_with fail
    refine HG.out.mono ?_
    rintro e wb ⟨rfl, R4, F4⟩
    have hrb : Hid (r < wb.heap.size) := R4.lt
    have HI0 := Lib.hid R4
    have HFb := Lib.hid (HF2.out.trans F4 (fun i hi => .inr (by rw [show i = r from hi]; exact hrw.out)))
    have HM := Lib.hid (Rows.nil wb wb 43)
    clear R4 F4 HF2 HG
    go_wp2
    go_loopg [7, 9] n (fun gk u i wr => ∃ (k : Nat) (v2 : Value) (M : List LkM), k + gk = n ∧ v2 = u ∧ i = .int .i64 (k : Int) ∧ Hid (M.map Prod.fst = lkL l s1 k) ∧ Hid (Rows wb wr 43 v2 M) ∧ Hid (InAt wr r (fun k => k < r) l (lkS l s1 k)) ∧ Hid (Fr (RS r) wb wr))
    case atStart => exact ⟨0, _, [], by omega, rfl, rfl, rfl, HM, HI0, Fr.refl _ _⟩
    case round =>
      obtain ⟨k, v2, M, hk, rfl, rfl, HML, HRO, HI, HF⟩ := hrel
      clear HM HI0
      have HFF : Hid (Fr No w wr) := HFb.out.trans HF.out (fun i hi => .inr (by rw [show i = r from hi]; exact hrw.out))
      have hfl := HI.out.failed
      by_cases hf : (lkS l s1 k).2 = true
      · have HSF : Hid ((lkS l s1 n).2 = true) := by
          show (lkS l s1 n).2 = true
          have := lkS_fail hf gk
          rwa [hk] at this
        rw [hf] at hfl
        clear hf
        by_cases hkn : k < n
        · have hd2 : Hid (decIAll p = ([], 4)) := by show decIAll p = _; rw [hD.out, if_pos HSF.out]; rfl
          go_wp2
          go_ret2
          exact ⟨.slice none 0 0, [], by rw [hd2.out]; rfl, by rw [hd2.out]; rfl, Rows.nil _ _ _, HFF.out⟩
        · have hd2 : Hid (decIAll p = ([], 4)) := by show decIAll p = _; rw [hD.out, if_pos HSF.out]; rfl
          go_wp2
          go_ret2
          exact ⟨.slice none 0 0, [], by rw [hd2.out]; rfl, by rw [hd2.out]; rfl, Rows.nil _ _ _, HFF.out⟩
      have hff : (lkS l s1 k).2 = false := by simpa using hf
      rw [hff] at hfl
      by_cases hkn : k < n
      · have hrh : True := trivial
        have F6 := (Fr.refl No wr).alloc (.cells #[.int .i64 0, .int .i64 0, .int .i64 (-1), .slice none 0 0] 43)
        have Bx : (wr.alloc (.cells #[.int .i64 0, .int .i64 0, .int .i64 (-1), .slice none 0 0] 43)).heap[wr.heap.size]? = some (.cells #[.int .i64 0, .int .i64 0, .int .i64 (-1), .slice none 0 0] 43 (0, 0)) := blk_new _ _
        have hMlt : ∀ q, (v2.ownBlock = some q → q < wr.heap.size) ∧ ∀ x ∈ M, ∀ ad, x.2.1 = some ad → ad.block < wr.heap.size := fun q => ⟨fun h => HRO.out.own.lt h, fun x hx ad e => ((HRO.out.rd x hx).2 ad e).2.2⟩
        obtain ⟨h2, hh2⟩ : ∃ h2, wr.heap.size = h2 := ⟨_, rfl⟩
        rw [hh2] at Bx hMlt
        have hrlt := HI.out.lt
        have hhr : Hid (¬ RS r h2) := by show ¬ RS r h2; intro e; have e2 : h2 = r := e; omega
        have hrh2 : Hid (r < h2) := by show r < h2; omega
        have hh2w : Hid (wb.heap.size ≤ h2) := by show wb.heap.size ≤ h2; rw [← hh2]; exact HF.out.size
        have hrh : Hid (∀ k, (fun i => i = h2) k → v2.ownBlock ≠ some k ∧ ∀ x ∈ M, ∀ ad, x.2.1 = some ad → ad.block ≠ k) := by
          show ∀ k, _
          intro k hk
          have hk2 : k = h2 := hk
          exact ⟨fun e => by have := (hMlt k).1 e; omega, fun x hx ad e => by have := (hMlt k).2 x hx ad e; omega⟩
        have hrP : Hid (∀ k, wb.heap.size ≤ k → ¬ RS r k) := by
          show ∀ k, _
          intro k hk e
          have e2 : k = r := e
          have := hrb.out
          omega
        have HBx := Lib.hid Bx
        replace HRO := Lib.hid (HRO.out.no F6)
        replace HI := Lib.hid (HI.out.fr F6 (fun k => k) (fun _ _ k => k))
        replace HF := Lib.hid (HF.out.trans F6 (fun _ k => k.elim))
        obtain ⟨s0, hs0⟩ : ∃ s0, lkS l s1 k = s0 := ⟨_, rfl⟩
        rw [hs0] at HI
        have HS0 := Lib.hid hs0
        have HMlt := Lib.hid hMlt
        clear F6 Bx hMlt hrlt hs0 hf hff HFF
        have HGT := Lib.hid (iget_at HI.out 8 8 rfl (by omega))
        have alt := gt_lt l s0 8
        obtain ⟨a, ha⟩ : ∃ a, gt l s0 8 = a := ⟨_, rfl⟩
        obtain ⟨sa, hsa⟩ : ∃ sa, nx l s0 8 = sa := ⟨_, rfl⟩
        rw [ha, hsa] at HGT
        rw [ha] at alt
        have Ha := Lib.hid ha
        have Hsa := Lib.hid hsa
        clear ha hsa
        go_wp2_with fail
        refine HGT.out.mono ?_
        rintro e wn ⟨rfl, RN, FN⟩
        replace HBx := Lib.hid (FN.heap HBx.out hhr.out)
        replace HRO := Lib.hid (HRO.out.fr FN hrP.out)
        replace HF := Lib.hid (HF.out.trans FN (fun i hi => .inl hi))
        replace HI := Lib.hid RN
        clear RN FN HGT
        have i1 : IntKind.i64.wrap (a : Int) = (a : Int) := by rw [IntKind.wrap_i64]; omega
        obtain ⟨q0, q1, q2, q3, z0, z1, z2, z3⟩ := four HBx.out
        clear q1 z1 q2 z2 q3 z3
        have fs : Fr (fun i => i = h2) wn (wn.setCell ⟨h2, 0, none⟩ (.int .i64 (a : Int))) := (Fr.refl (fun i => i = h2) wn).setCell (p := ⟨h2, 0, none⟩) (.inl rfl) (.int .i64 (a : Int))
        replace HBx := Lib.hid (show _ = some (Obj.cells #[.int .i64 (a : Int), .int .i64 0, .int .i64 (-1), .slice none 0 0] 43 (0, 0)) from blk_set HBx.out 0 (.int .i64 (a : Int)))
        replace HRO := Lib.hid (HRO.out.fr' fs hrh.out)
        replace HI := Lib.hid (HI.out.fr fs (fun e => hhr.out (show RS r h2 from (show r = h2 from e).symm)) (fun k hk e => by have h1 := hrh2.out; have h3 : k = h2 := e; have h4 : k < r := hk; omega))
        replace HF := Lib.hid (HF.out.trans fs (fun i hi => .inr (by rw [show i = h2 from hi]; exact hh2w.out)))
        clear fs
        go_upto_region 12 with (fail)
        obtain ⟨wx, hwx⟩ : ∃ wx, wn.setCell ⟨h2, 0, none⟩ (.int .i64 (a : Int)) = wx := ⟨_, rfl⟩
        rw [hwx] at HBx HRO HI HF ⊢
        clear hwx q0 z0
        have HGT := Lib.hid (iget_at HI.out 8 8 rfl (by omega))
        have blt := gt_lt l sa 8
        obtain ⟨b, hb⟩ : ∃ b, gt l sa 8 = b := ⟨_, rfl⟩
        obtain ⟨sb, hsb⟩ : ∃ sb, nx l sa 8 = sb := ⟨_, rfl⟩
        rw [hb, hsb] at HGT
        rw [hb] at blt
        have Hb := Lib.hid hb
        have Hsb := Lib.hid hsb
        clear hb hsb
        go_wp2_with fail
        refine HGT.out.mono ?_
        rintro e wn ⟨rfl, RN, FN⟩
        replace HBx := Lib.hid (FN.heap HBx.out hhr.out)
        replace HRO := Lib.hid (HRO.out.fr FN hrP.out)
        replace HF := Lib.hid (HF.out.trans FN (fun i hi => .inl hi))
        replace HI := Lib.hid RN
        clear RN FN HGT
        have i2 : IntKind.i64.wrap (b : Int) = (b : Int) := by rw [IntKind.wrap_i64]; omega
        obtain ⟨q0, q1, q2, q3, z0, z1, z2, z3⟩ := four HBx.out
        clear q0 z0 q2 z2 q3 z3
        have fs : Fr (fun i => i = h2) wn (wn.setCell ⟨h2, 1, none⟩ (.int .i64 (b : Int))) := (Fr.refl (fun i => i = h2) wn).setCell (p := ⟨h2, 1, none⟩) (.inl rfl) (.int .i64 (b : Int))
        replace HBx := Lib.hid (show _ = some (Obj.cells #[.int .i64 (a : Int), .int .i64 (b : Int), .int .i64 (-1), .slice none 0 0] 43 (0, 0)) from blk_set HBx.out 1 (.int .i64 (b : Int)))
        replace HRO := Lib.hid (HRO.out.fr' fs hrh.out)
        replace HI := Lib.hid (HI.out.fr fs (fun e => hhr.out (show RS r h2 from (show r = h2 from e).symm)) (fun k hk e => by have h1 := hrh2.out; have h3 : k = h2 := e; have h4 : k < r := hk; omega))
        replace HF := Lib.hid (HF.out.trans fs (fun i hi => .inr (by rw [show i = h2 from hi]; exact hh2w.out)))
        clear fs
        go_upto_region 13 with (fail)
        obtain ⟨wx, hwx⟩ : ∃ wx, wn.setCell ⟨h2, 1, none⟩ (.int .i64 (b : Int)) = wx := ⟨_, rfl⟩
        rw [hwx] at HBx HRO HI HF ⊢
        clear hwx q1 z1
        have HGT := Lib.hid (iget_at HI.out 1 1 rfl (by omega))
        have olt := gt_lt l sb 1
        obtain ⟨o, ho⟩ : ∃ o, gt l sb 1 = o := ⟨_, rfl⟩
        obtain ⟨so, hso⟩ : ∃ so, nx l sb 1 = so := ⟨_, rfl⟩
        rw [ho, hso] at HGT
        rw [ho] at olt
        have Ho := Lib.hid ho
        have Hso := Lib.hid hso
        clear ho hso
        go_wp2_with fail
        refine HGT.out.mono ?_
        rintro e wn ⟨rfl, RN, FN⟩
        replace HBx := Lib.hid (FN.heap HBx.out hhr.out)
        replace HRO := Lib.hid (HRO.out.fr FN hrP.out)
        replace HF := Lib.hid (HF.out.trans FN (fun i hi => .inl hi))
        replace HI := Lib.hid RN
        clear RN FN HGT
        have olt2 : o < 2 := by omega
        obtain ⟨E, hEE⟩ : ∃ E : Int, (if o = 1 then 0 else -1) = E := ⟨_, rfl⟩
        have HEE := Lib.hid hEE
        go_upto_if 51 with (fail)
        go_cut [10] (fun pt wc => pt = .pointer (some ⟨h2, 0, none⟩) ∧ Hid (wc.heap[h2]? = some (.cells #[.int .i64 (a : Int), .int .i64 (b : Int), .int .i64 E, .slice none 0 0] 43 (0, 0))) ∧ Hid (Rows wb wc 43 v2 M) ∧ Hid (InAt wc r (fun k => k < r) l so) ∧ Hid (Fr (RS r) wb wc))
        case first =>
          by_cases ho1 : o = 1
          · subst ho1
            have hE1 : (0 : Int) = E := by simpa using hEE
            subst hE1
            obtain ⟨_, _, p2, _, _, _, z2, _⟩ := four HBx.out
            have fs : Fr (fun i => i = h2) wn (wn.setCell ⟨h2, 2, none⟩ (.int .i64 0)) := (Fr.refl (fun i => i = h2) wn).setCell (p := ⟨h2, 2, none⟩) (.inl rfl) (.int .i64 0)
            have K5 := Lib.hid (show (wn.setCell ⟨h2, 2, none⟩ (.int .i64 0)).heap[h2]? = some (Obj.cells #[.int .i64 (a : Int), .int .i64 (b : Int), .int .i64 0, .slice none 0 0] 43 (0, 0)) from blk_set HBx.out 2 (.int .i64 0))
            have KO := Lib.hid (HRO.out.fr' fs hrh.out)
            have KI := Lib.hid (HI.out.fr fs (fun e => hhr.out (show RS r h2 from (show r = h2 from e).symm)) (fun k hk e => by have h1 := hrh2.out; have h3 : k = h2 := e; have h4 : k < r := hk; omega))
            have KF := Lib.hid (HF.out.trans fs (fun i hi => .inr (by rw [show i = h2 from hi]; exact hh2w.out)))
            clear fs
            go_wp2
            go_meet
            case rel => exact ⟨rfl, K5, KO, KI, KF⟩
          · obtain rfl : o = 0 := by omega
            have hE1 : (-1 : Int) = E := by simpa using hEE
            subst hE1
            go_wp2
            go_meet
            case rel => exact ⟨rfl, HBx, HRO, HI, HF⟩
        case rest =>
          obtain ⟨rfl, HBx, HRO, HI, HF⟩ := hcut
          clear hEE olt2
          have HGT := Lib.hid (iget_at HI.out 4 4 rfl (by omega))
          have mlt := gt_lt l so 4
          obtain ⟨m, hm⟩ : ∃ m, gt l so 4 = m := ⟨_, rfl⟩
          obtain ⟨s4, hs4⟩ : ∃ s4, nx l so 4 = s4 := ⟨_, rfl⟩
          rw [hm, hs4] at HGT
          rw [hm] at mlt
          have Hm := Lib.hid hm
          have Hs4 := Lib.hid hs4
          clear hm hs4
          go_wp2_with fail
          refine HGT.out.mono ?_
          rintro e wn ⟨rfl, RN, FN⟩
          replace HBx := Lib.hid (FN.heap HBx.out hhr.out)
          replace HRO := Lib.hid (HRO.out.fr FN hrP.out)
          replace HF := Lib.hid (HF.out.trans FN (fun i hi => .inl hi))
          replace HI := Lib.hid RN
          clear RN FN HGT
          have i5 : IntKind.i64.wrap (m : Int) = (m : Int) := by rw [IntKind.wrap_i64]; omega
          have HON := Lib.hid (Own.nil wn 5)
          go_wp2
          go_loopg [12] m (fun gk2 i wr => ∃ (j : Nat) (A' : Option Addr) (c' : Nat), j + gk2 = m ∧ i = .int .i64 (j : Int) ∧ Hid (wr.heap[h2]? = some (.cells #[.int .i64 (a : Int), .int .i64 (b : Int), .int .i64 E, .slice A' j c'] 43 (0, 0))) ∧ Hid (Own wr 5 (.slice A' j c') (bys (manyB l s4 2 j))) ∧ Hid (∀ k, (Value.slice A' j c').ownBlock = some k → h2 < k) ∧ Hid (Rows wb wr 43 v2 M) ∧ Hid (InAt wr r (fun k => k < r) l (manyS l s4 2 j)) ∧ Hid (Fr (RS r) wb wr))
          case atStart => exact ⟨0, none, 0, by omega, rfl, HBx, HON, (by show ∀ k, _; intro k e; simp [Value.ownBlock] at e), HRO, HI, HF⟩
          case round =>
            clear HBx HON HRO HI HF
            obtain ⟨j, A', c', hj, rfl, HBx, HO, NA, HRO, HI, HF⟩ := hrel
            by_cases hjn : j < m
            · have D4 := (Fr.refl No wr).drew
              have HG := Lib.hid (iget_at (HI.out.fr D4 (fun k => k) (fun _ _ k => k)) 2 2 rfl (by omega))
              have ylt := gt_lt l (manyS l s4 2 j) 2
              obtain ⟨y, hy⟩ : ∃ y, gt l (manyS l s4 2 j) 2 = y := ⟨_, rfl⟩
              have hsucc : Hid (bys (manyB l s4 2 (j + 1)) = bys (manyB l s4 2 j) ++ [.int .u8 (y : Int)]) := by
                show bys (manyB l s4 2 j ++ [UInt8.ofNat (gt l (manyS l s4 2 j) 2)]) = _
                rw [hy, bys_append]
                have : (UInt8.ofNat y).toNat = y := UInt8.toNat_ofNat_of_lt' (by show y < 256; omega)
                simp [bys, this]
              have hlen : Hid ((bys (manyB l s4 2 j)).length = j) := by show (bys (manyB l s4 2 j)).length = j; rw [bys_length, manyB_length]
              rw [hy] at HG ylt
              have i6 : IntKind.u8.wrap (y : Int) = (y : Int) := by rw [IntKind.wrap_u8]; omega
              obtain ⟨q0, q1, q2, q3, z0, z1, z2, z3⟩ := four HBx.out
              have HFD := Lib.hid (HF.out.trans D4 (fun _ k => k.elim))
              have HOd := Lib.hid (HO.out.fr D4 (fun _ _ k => k))
              have HRd := Lib.hid (HRO.out.no D4)
              clear q0 q1 q2 z0 z1 z2 z3 hy D4
              go_wp2
              go_region_law (first
                | (refine step_own_append rfl (.tmp 62) (.tmp 66) 22 5 (.int .u8 0) 1 rfl Try.underlying22 infoU8 rfl (by decide) _ (bys (manyB l s4 2 j)) (.int .u8 (y : Int)) _ (by rfl) (by rfl) (by rw [blk_cell (blk_new _ _)]; rfl) rfl (OA.alloc _) (by rw [hlen.out]; omega) ?_
                   intro v4 w4 o4 f4 a4
                   obtain ⟨A4, c4, hv4, b5b, Ib, Fb, Nb, f5⟩ := after_in (n := j + 1) (by rw [List.length_append, hlen.out]; rfl) NA.out hrh2.out hh2w.out IA Fa b5a o4 f4 a4
                   subst hv4
                   have Ro := ROa.fr' f5 (fun k hk => ⟨fun e => by have h1 := (HMlt.out k).1 e; have h3 := NA.out k hk; omega, fun x hx ad e e2 => by have h1 := (HMlt.out k).2 x hx ad e; have h3 := NA.out k hk; omega⟩)
                   have c6b := (four b5b).2.2.2.1
                   have z6b := (four b5b).2.2.2.2.2.2.2)
                | (go_simp
                   go_at_call 30
                   refine HG.out.mono ?_
                   rintro e wa ⟨rfl, IA, FA⟩
                   have OA := HOd.out.fr (S := RS r) FA (fun q hq e => by have h1 := NA.out q hq; have h3 : q = r := e; have := hrh2.out; omega)
                   have ROa := HRd.out.fr FA hrP.out
                   have b5a := FA.heap HBx.out hhr.out
                   have c6a := (four b5a).2.2.2.1
                   have c6al := (four (blk_alloc b5a (.cells #[.int .u8 (y : Int)] 5))).2.2.2.1
                   have Fa := HFD.out.trans FA (fun i hi => .inl hi)))
              all_goals
                have fs : Fr (fun i => i = h2) w4 (w4.setCell ⟨h2, 3, none⟩ (.slice A4 (j + 1) c4)) := (Fr.refl (fun i => i = h2) w4).setCell (p := ⟨h2, 3, none⟩) (.inl rfl) (.slice A4 (j + 1) c4)
                have k5 : (w4.setCell ⟨h2, 3, none⟩ (.slice A4 (j + 1) c4)).heap[h2]? = some (Obj.cells #[.int .i64 (a : Int), .int .i64 (b : Int), .int .i64 E, .slice A4 (j + 1) c4] 43 (0, 0)) := blk_set b5b 3 (.slice A4 (j + 1) c4)
                have kI := Ib.fr fs (fun e => hhr.out (show RS r h2 from (show r = h2 from e).symm)) (fun k hk e => by have h1 := hrh2.out; have h3 : k = h2 := e; have h4 : k < r := hk; omega)
                have kR := Ro.fr' fs hrh.out
                have kO := o4.fr fs (fun k hk e => by have := Nb k hk; have e2 : k = h2 := e; omega)
                have kF := Fb.trans fs (fun i hi => .inr (by rw [show i = h2 from hi]; exact hh2w.out))
                rw [← hsucc.out] at kO
                have K5 := Lib.hid k5
                have KI := Lib.hid kI
                have KR := Lib.hid kR
                have KO := Lib.hid kO
                have KF := Lib.hid kF
                have KN := Lib.hid Nb
                clear k5 kI kR kO kF fs Nb o4 f4 a4 b5a b5b Ib Fb Ro f5
                go_wp2
                go_roundg (m - (j + 1))
                case measure => omega
                case rel => exact ⟨j + 1, A4, c4, by omega, by go_num, K5, KO, KN, KR, KI, KF⟩
            · obtain rfl : j = m := by omega
              obtain ⟨x, hx⟩ : ∃ x, lk l (lkS l s1 k) = x := ⟨_, rfl⟩
              have hM : x = ⟨a, b, E, manyB l s4 2 j⟩ := by
                rw [← hx, HS0.out]
                unfold lk lkE lkP
                rw [Ha.out, Hsa.out, Hb.out, Hsb.out, Ho.out, Hso.out, Hm.out, Hs4.out, HEE.out]
              have hN : lkS l s1 (k + 1) = manyS l s4 2 j := by
                show lkN l (lkS l s1 k) = _
                rw [HS0.out]
                unfold lkN
                rw [Hsa.out, Hsb.out, Hso.out, Hm.out, Hs4.out]
              have hML5 : (M ++ [(x, A', c')]).map Prod.fst = lkL l s1 (k + 1) := by
                rw [List.map_append, HML.out]
                show lkL l s1 k ++ [x] = lkL l s1 k ++ [lk l (lkS l s1 k)]
                rw [hx]
              have hpl : x.p.length = j := by rw [hM]; exact manyB_length _ _ _ _
              have RT := HO.out.rd.1
              have hrp : Rd wr A' (bys x.p) := by rw [hM]; exact RT
              have hpp : ∀ ad, A' = some ad → wb.heap.size ≤ ad.block ∧ v2.ownBlock ≠ some ad.block ∧ ad.block < wr.heap.size := by
                intro ad e
                obtain ⟨A5, c5, h5, _, h6, _⟩ := HO.out.shape
                injection h5 with e5
                have h7 := h6 ad (by rw [← e5]; exact e)
                have h8 := NA.out _ h7
                refine ⟨by have := hh2w.out; omega, fun e2 => by have := (HMlt.out ad.block).1 e2; omega, HO.out.lt h7⟩
              rw [← hN] at HI
              have hlen : M.length = k := by
                have := congrArg List.length HML.out
                rw [List.length_map, lkL_length] at this
                exact this
              have hcx : lcells (x, A', c') = [.int .i64 (a : Int), .int .i64 (b : Int), .int .i64 E, .slice A' j c'] := by
                unfold lcells
                simp only [hpl]
                rw [hM]
              have HLN := Lib.hid hlen
              have HCX := Lib.hid hcx
              have HML5 := Lib.hid hML5
              have HRP := Lib.hid hrp
              have HPP := Lib.hid hpp
              clear hM hN hML5 hpl RT hrp hpp hlen hcx hx
              go_wp2_with (first
                | (refine wpList_load_row rfl 43 (.tmp 10) rfl h2 rfl 43 _ (0, 0) _ HBx.out Try.underlying43 rfl (by kernel_rfl) ?_)
                | (at_builtin; go_loud (refine own_append_k rfl (.tmp 69) (.tmp 71) 29 43 (.agg #[.int .i64 0, .int .i64 0, .int .i64 0, .slice none 0 0]) 4 48 rfl Try.underlying29 infoLock15 rfl (by decide) (by decide) _ M.length (M.flatMap lcells) #[.int .i64 (a : Int), .int .i64 (b : Int), .int .i64 E, .slice A' j c'] _ rfl rfl rfl rfl ?h1 HRO.out.own ?hl ?_)))
              case h1 => simp [Value.oneCell']
              case hl => rw [HLN.out]; omega
              intro v5 w5 o5 f5 a5
              have hrows := HRO.out.snoc (x := (x, A', c')) (by rw [HCX.out]; exact o5) f5 a5 HF.out.size HRP.out HPP.out
              have hI5 := HI.out.fr f5 (fun e => by have h1 := HRO.out.old r e; have h3 := hrb.out; omega) (fun q hq e => by have h1 := HRO.out.old q e; have h3 := hrb.out; have h4 : q < r := hq; omega)
              have hF5 : Fr (RS r) wb w5 := HF.out.trans f5 (fun i hi => .inr (HRO.out.old i hi))
              have K1 := Lib.hid hrows
              have K2 := Lib.hid hI5
              have K3 := Lib.hid hF5
              clear hrows hI5 hF5 o5 f5 a5
              go_wp2
              go_roundg (n - (k + 1))
              case measure => omega
              case rel => exact ⟨k + 1, v5, M ++ [(x, A', c')], by omega, rfl, by go_num, HML5, K1, K2, K3⟩
      · obtain rfl : k = n := by omega
        have HE := Lib.hid (iend_at HI.out)
        rw [hff] at HE
        by_cases hq : ends l (lkS l s1 k).1 false = true
        · rw [hq] at HE
          have hd2 : Hid (decIAll p = (lkL l s1 k, 0)) := by show decIAll p = _; rw [hD.out, if_neg hf, hff, if_pos hq]; rfl
          have HMM := Lib.hid (HRO.out.base HFb.out.size)
          clear hf hq hff
          go_wp2_with fail
          refine HE.out.mono ?_
          rintro e wm ⟨rfl, rfl⟩
          go_wp2
          go_ret2
          exact ⟨v2, M, by rw [hd2.out]; rfl, by rw [hd2.out]; exact HML.out, HMM.out, HFF.out⟩
        · have hqf : ends l (lkS l s1 k).1 false = false := by simpa using hq
          rw [hqf] at HE
          have hd2 : Hid (decIAll p = ([], 2)) := by show decIAll p = _; rw [hD.out, if_neg hf, hff, if_neg hq]; rfl
          clear hf hq hff hqf
          go_wp2_with fail
          refine HE.out.mono ?_
          rintro e wm ⟨rfl, rfl⟩
          go_wp2
          go_ret2
          exact ⟨.slice none 0 0, [], by rw [hd2.out]; rfl, by rw [hd2.out]; rfl, Rows.nil _ _ _, HFF.out⟩
  · have hD : Hid (decIAll p = ([], code p)) := by show decIAll p = _; unfold decIAll; rw [if_neg h0]
    obtain ⟨k, hk⟩ : ∃ k, code p = k := ⟨_, rfl⟩
    rw [hk] at h0 hD ⊢
    clear R HO hk
    go_wp2
    go_ret2
    exact ⟨.slice none 0 0, [], by rw [hD.out]; rfl, by rw [hD.out]; rfl, Rows.nil _ _ _, F1⟩
end Go.Proofs.Ythimhjdanmejmaa
