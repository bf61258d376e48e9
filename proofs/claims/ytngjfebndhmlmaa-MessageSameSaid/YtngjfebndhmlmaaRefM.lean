import Derived.Test.YtngjfebndhmlmaaDecW
import Derived.Deep.RegionLaw
namespace Go.Proofs.Ytngjfebndhmlmaa
open Go.RowKit Go

theorem after_append {w wa w4 : World} {g r : Nat} {v v4 : Value} {C2 C4 C5 Y : Obj} {l : List UInt8} {s : Pl} {e : TypeId} {xs : List Value} {n : Nat} (hn : xs.length = n) (NA : ∀ k, v.ownBlock = some k → r < k) (hrg : g + 3 ≤ r) (hrw : w.heap.size ≤ r)
    (IA : InAt wa r (fun k => g + 3 ≤ k ∧ k < r) l s) (Fa : Fr No w wa) (b2 : wa.heap[g]? = some C2) (b4 : wa.heap[g + 1]? = some C4) (b5 : wa.heap[g + 2]? = some C5) (o4 : Own w4 e v4 xs) (f4 : Fr (fun k => v.ownBlock = some k) (wa.alloc Y) w4)
    (a4 : v4.ownBlock = v.ownBlock ∨ ∃ b, v4.ownBlock = some b ∧ (wa.alloc Y).heap.size ≤ b) :
    ∃ A4 c4, v4 = .slice A4 n c4 ∧ w4.heap[g]? = some C2 ∧ w4.heap[g + 1]? = some C4 ∧ w4.heap[g + 2]? = some C5 ∧ InAt w4 r (fun k => g + 3 ≤ k ∧ k < r) l s ∧ Fr No w w4 ∧ (∀ k, v4.ownBlock = some k → r < k) := by
  obtain ⟨A4, c4, hv4, _, _, _⟩ := o4.shape
  rw [hn] at hv4
  have f5 : Fr (fun k => v.ownBlock = some k) wa w4 := ((Fr.refl No wa).alloc Y).no.trans f4 (fun i hi => .inl hi)
  refine ⟨A4, c4, hv4, f5.heap b2 (fun e => by have := NA _ e; omega), f5.heap b4 (fun e => by have := NA _ e; omega), f5.heap b5 (fun e => by have := NA _ e; omega), IA.fr f5 (fun e => by have := NA _ e; omega) (fun k hk e => by have := NA _ e; have := hk.2; omega), Fa.trans f5 (fun i hi => .inr (by have := NA _ hi; omega)), ?_⟩
  intro k hk
  rcases a4 with e | ⟨b, e, hb⟩
  · rw [e] at hk; exact NA k hk
  · rw [e] at hk; cases hk
    have h1 : wa.heap.size ≤ (wa.alloc Y).heap.size := by simp
    have h2 := IA.lt
    omega

set_option maxRecDepth 20000 in
set_option maxHeartbeats 8000000 in
theorem refDecode_any {A : Option Addr} {c : Nat} {p : List UInt8} {w : World} (hl : Rd w A (bys p)) (hc : p.length ≤ c) (hlen : p.length ≤ 1000000) :
    Calls Try.prog 20 #[.slice A p.length c] w fun e w' => ∃ A' c', e = .returned (.tuple #[mval (decAll p).1 A' c', .int .i64 (decAll p).2]) ∧ Rd w' A' (ints .i64 (decAll p).1.tr) ∧ Fr No w w' := by
  have F0 := (((Fr.refl No w).alloc (.cells #[.int .u8 0, .int .i64 0, .int .i64 0, .int .i64 0, .int .i64 0, .bool false, .slice none 0 0] 34)).alloc (.cells #[.int .u8 0, .int .i64 0, .int .i64 0, .int .i64 0, .int .i64 0, .bool false, .slice none 0 0] 34)).alloc (.cells #[.int .u8 0, .int .i64 0, .int .i64 0, .int .i64 0, .int .i64 0, .bool false, .slice none 0 0] 34)
  have B2 : (((w.alloc (.cells #[.int .u8 0, .int .i64 0, .int .i64 0, .int .i64 0, .int .i64 0, .bool false, .slice none 0 0] 34)).alloc (.cells #[.int .u8 0, .int .i64 0, .int .i64 0, .int .i64 0, .int .i64 0, .bool false, .slice none 0 0] 34)).alloc (.cells #[.int .u8 0, .int .i64 0, .int .i64 0, .int .i64 0, .int .i64 0, .bool false, .slice none 0 0] 34)).heap[w.heap.size]? = some (.cells #[.int .u8 0, .int .i64 0, .int .i64 0, .int .i64 0, .int .i64 0, .bool false, .slice none 0 0] 34 (0, 0)) := blk_alloc (blk_alloc (blk_new _ _) _) _
  have B4 : (((w.alloc (.cells #[.int .u8 0, .int .i64 0, .int .i64 0, .int .i64 0, .int .i64 0, .bool false, .slice none 0 0] 34)).alloc (.cells #[.int .u8 0, .int .i64 0, .int .i64 0, .int .i64 0, .int .i64 0, .bool false, .slice none 0 0] 34)).alloc (.cells #[.int .u8 0, .int .i64 0, .int .i64 0, .int .i64 0, .int .i64 0, .bool false, .slice none 0 0] 34)).heap[(w.alloc (.cells #[.int .u8 0, .int .i64 0, .int .i64 0, .int .i64 0, .int .i64 0, .bool false, .slice none 0 0] 34)).heap.size]? = some (.cells #[.int .u8 0, .int .i64 0, .int .i64 0, .int .i64 0, .int .i64 0, .bool false, .slice none 0 0] 34 (0, 0)) := blk_alloc (blk_new _ _) _
  have B5 : (((w.alloc (.cells #[.int .u8 0, .int .i64 0, .int .i64 0, .int .i64 0, .int .i64 0, .bool false, .slice none 0 0] 34)).alloc (.cells #[.int .u8 0, .int .i64 0, .int .i64 0, .int .i64 0, .int .i64 0, .bool false, .slice none 0 0] 34)).alloc (.cells #[.int .u8 0, .int .i64 0, .int .i64 0, .int .i64 0, .int .i64 0, .bool false, .slice none 0 0] 34)).heap[((w.alloc (.cells #[.int .u8 0, .int .i64 0, .int .i64 0, .int .i64 0, .int .i64 0, .bool false, .slice none 0 0] 34)).alloc (.cells #[.int .u8 0, .int .i64 0, .int .i64 0, .int .i64 0, .int .i64 0, .bool false, .slice none 0 0] 34)).heap.size]? = some (.cells #[.int .u8 0, .int .i64 0, .int .i64 0, .int .i64 0, .int .i64 0, .bool false, .slice none 0 0] 34 (0, 0)) := blk_new _ _
  have HO := Lib.hid (refOpen_any (hl.no F0) hc (by omega))
  obtain ⟨g, hg⟩ : ∃ g, w.heap.size = g := ⟨_, rfl⟩
  have e4 : (w.alloc (.cells #[.int .u8 0, .int .i64 0, .int .i64 0, .int .i64 0, .int .i64 0, .bool false, .slice none 0 0] 34)).heap.size = g + 1 := by simp [hg]
  have e5 : ((w.alloc (.cells #[.int .u8 0, .int .i64 0, .int .i64 0, .int .i64 0, .int .i64 0, .bool false, .slice none 0 0] 34)).alloc (.cells #[.int .u8 0, .int .i64 0, .int .i64 0, .int .i64 0, .int .i64 0, .bool false, .slice none 0 0] 34)).heap.size = g + 2 := by simp [hg]
  rw [hg] at B2
  rw [e4] at B4
  rw [e5] at B5
  have HB2 := Lib.hid B2
  have HB4 := Lib.hid B4
  have HB5 := Lib.hid B5
  have HF := Lib.hid F0
  have hgw : Hid (w.heap.size ≤ g) := by show w.heap.size ≤ g; omega
  have hbl := Lib.hid (body_length p)
  clear hl B2 B4 B5 F0 e4 e5
  go_enter Try.func20, Try.ntmps20
  go_wp2_with fail
  rw [show g + 1 + 1 = g + 2 from rfl]
  refine HO.out.mono ?_
  rintro e w1 ⟨Q, cq, rfl, R, F1⟩
  replace HB2 := Lib.hid (F1.heap HB2.out (fun k => k))
  replace HB4 := Lib.hid (F1.heap HB4.out (fun k => k))
  replace HB5 := Lib.hid (F1.heap HB5.out (fun k => k))
  replace HF := Lib.hid (HF.out.trans F1 (fun _ k => k.elim))
  by_cases h0 : code p = 0
  · have hD : Hid (decAll p = ((decM (body p)).1, ((decM (body p)).2 : Int))) := by show decAll p = _; unfold decAll; rw [if_pos h0]
    rw [h0]
    obtain ⟨l, hll⟩ : ∃ l, body p = l := ⟨_, rfl⟩
    rw [hll] at hD R hbl ⊢
    have HOF := Lib.hid (refOf_any (c := cq) (R.no F1) (by have := hbl.out; omega))
    clear R F1 h0 HO hll
    go_wp2_with fail
    refine HOF.out.mono ?_
    rintro e w3 ⟨v3, rfl, O3, N3, F3⟩
    obtain ⟨C, c3, rfl, hCc, hC, R3⟩ := O3.shape
    have hnil : C = none → c3 = 0 := by
      obtain ⟨A4, c4, e, h4, _, _⟩ := O3.shape2
      injection e with e1 _ e2
      subst e1 e2
      exact h4
    have hcsm : c3 ≤ 9223372036854775807 := by
      rcases O3.2 with ⟨h1, _⟩ | ⟨g', cap, cur, h1, _, _, _, hm, _⟩
      · injection h1 with _ _ h3; omega
      · injection h1 with _ _ h3
        simp only [maxLen] at hm
        omega
    rw [bls_length] at hCc ⊢
    have hg5 := blk_lt HB5.out
    have hCn : ∀ ad, C = some ad → g + 3 ≤ ad.block := fun ad e => by have := N3 _ (hC ad e); omega
    have hClt : ∀ ad, C = some ad → ad.block < w3.heap.size := fun ad e => O3.lt (hC ad e)
    obtain ⟨Z3, hZ3⟩ : ∃ Z3, Obj.cells #[.slice C (ofBytes l).length c3, .bool false] 69 = Z3 := ⟨_, rfl⟩
    have hr3 : g + 2 < w3.heap.size := Nat.lt_of_lt_of_le hg5 F3.size
    obtain ⟨r, hr⟩ : ∃ r, w3.heap.size = r := ⟨_, rfl⟩
    have I0 : InAt (w3.alloc Z3) r (fun k => g + 3 ≤ k ∧ k < r) l (0, false) := by
      rw [← hr]
      refine ⟨C, c3, ofBytes l, ⟨by rw [← hZ3]; exact blk_new _ _, R3.no ((Fr.refl No w3).alloc _), hCc, hnil, fun ad e => by have := hClt ad e; omega, hcsm⟩, by unfold Both; simp, fun ad e => ⟨hCn ad e, hClt ad e⟩⟩
    have HI := Lib.hid I0
    have F3' := F3.alloc Z3
    replace HB2 := Lib.hid (F3'.heap HB2.out (fun k => k))
    replace HB4 := Lib.hid (F3'.heap HB4.out (fun k => k))
    replace HB5 := Lib.hid (F3'.heap HB5.out (fun k => k))
    replace HF := Lib.hid (HF.out.trans F3' (fun _ k => k.elim))
    have hr2 : Hid (¬ RS r g) := by show ¬ RS r g; intro e; have e2 : g = r := e; omega
    have hr4 : Hid (¬ RS r (g + 1)) := by show ¬ RS r (g + 1); intro e; have e2 : g + 1 = r := e; omega
    have hr5 : Hid (¬ RS r (g + 2)) := by show ¬ RS r (g + 2); intro e; have e2 : g + 2 = r := e; omega
    have hrw : Hid (w.heap.size ≤ r) := by show w.heap.size ≤ r; omega
    have hrg : Hid (g + 3 ≤ r) := by show g + 3 ≤ r; omega
    have HHR := Lib.hid hr
    subst hZ3
    clear O3 N3 F3 F3' R3 hnil hCc hCn hClt hC hcsm I0 HOF hg5 hr3
    have HGT := Lib.hid (iget_at HI.out 3 3 rfl (by omega))
    have klt := gt_lt l ((0, false)) 3
    obtain ⟨k, hk⟩ : ∃ k, gt l ((0, false)) 3 = k := ⟨_, rfl⟩
    rw [hk] at HGT klt
    have Hk := Lib.hid hk
    clear hk
    go_wp2_with fail
    refine HGT.out.mono ?_
    rintro e wn ⟨rfl, RN, FN⟩
    replace HB2 := Lib.hid (FN.heap HB2.out hr2.out)
    replace HB4 := Lib.hid (FN.heap HB4.out hr4.out)
    replace HB5 := Lib.hid (FN.heap HB5.out hr5.out)
    replace HF := Lib.hid (HF.out.trans FN (fun i hi => .inr (by rw [show i = r from hi]; exact hrw.out)))
    replace HI := Lib.hid RN
    clear RN FN HGT
    have k8 : (k : Int) % 256 = (k : Int) := by omega

    obtain ⟨q0, q1, q2, q3, q4, q5, q6, z0, z1, z2, z3, z4, z5, z6⟩ := seven HB5.out
    clear q1 z1 q2 z2 q3 z3 q4 z4 q5 z5 q6 z6
    have fs : Fr (fun i => i = g + 2) wn (wn.setCell ⟨g + 2, 0, none⟩ (.int .u8 (k : Int))) := (Fr.refl (fun i => i = g + 2) wn).setCell (p := ⟨g + 2, 0, none⟩) (.inl rfl) (.int .u8 (k : Int))
    replace HB5 := Lib.hid (show _ = some (Obj.cells #[.int .u8 (k : Int), .int .i64 0, .int .i64 0, .int .i64 0, .int .i64 0, .bool false, .slice none 0 0] 34 (0, 0)) from blk_set HB5.out 0 (.int .u8 (k : Int)))
    replace HB2 := Lib.hid (fs.heap HB2.out (fun e => by have e2 : g = g + 2 := e; omega))
    replace HB4 := Lib.hid (fs.heap HB4.out (fun e => by have e2 : g + 1 = g + 2 := e; omega))
    replace HI := Lib.hid (HI.out.fr fs (fun e => hr5.out (Eq.symm e)) (fun k hk e => by have := hk.1; have e2 : k = g + 2 := e; omega))
    replace HF := Lib.hid (HF.out.trans fs (fun i hi => .inr (by rw [show i = g + 2 from hi]; have := hgw.out; omega)))
    clear fs

    go_upto_region 7 with (fail)
    obtain ⟨wx, hwx⟩ : ∃ wx, wn.setCell ⟨g + 2, 0, none⟩ (.int .u8 (k : Int)) = wx := ⟨_, rfl⟩
    rw [hwx] at HB2 HB4 HB5 HI HF ⊢
    clear hwx q0 z0
    have hfl := HI.out.failed

    by_cases hf : (nx l (0, false) 3).2 = true
    · have hd : Hid (decM l = (mnone, 4)) := by show decM l = (mnone, 4); unfold decM; rw [if_pos hf]
      have hd2 : Hid (decAll p = (mnone, 4)) := by show decAll p = _; rw [hD.out, hd.out]; rfl
      rw [hf] at hfl
      clear hf
      go_wp2_with (first | (refine wpList_load_row rfl 34 (.tmp 4) rfl (g + 1) rfl 34 _ (0, 0) _ HB4.out Try.underlying34 rfl (by kernel_rfl) ?_) | (refine wpList_store_row rfl 34 (.tmp 2) (.tmp 32) rfl g _ rfl rfl 34 _ HB2.out (by kernel_rfl) rfl (by simp [Value.oneCell']) ?_))
      refine bodyPost_ret (results_cell2 rfl _ _ _ g _ rfl (run_loadVar_row _ g _ _ _ _ _ (setRow_heap _ g _ _ _ _ HB2.out) Try.underlying34 rfl (by kernel_rfl))) rfl ?_
      first
        | exact ⟨none, 0, by rw [hd2.out]; rfl, by rw [hd2.out]; exact Rd.nil _ _, HF.out.row (.inr hgw.out)⟩
        | exact ⟨none, ⟨0, by rw [hd2.out]; rfl⟩, by rw [hd2.out]; exact Rd.nil _ _, HF.out.row (.inr hgw.out)⟩

    have hff : (nx l (0, false) 3).2 = false := by simpa using hf
    rw [hff] at hfl
    have Hff := Lib.hid hf
    clear hf hff
    have m0 := (seven HB5.out).1
    by_cases hk1 : k < 1
    · obtain rfl : k = 0 := by omega
      have hd : Hid (decM l = (mnone, 2)) := by show decM l = (mnone, 2); unfold decM; rw [if_neg Hff.out, if_pos (by rw [Hk.out]; omega)]
      have hd2 : Hid (decAll p = (mnone, 2)) := by show decAll p = _; rw [hD.out, hd.out]; rfl
      go_wp2_with (first | (refine wpList_load_row rfl 34 (.tmp 4) rfl (g + 1) rfl 34 _ (0, 0) _ HB4.out Try.underlying34 rfl (by kernel_rfl) ?_) | (refine wpList_store_row rfl 34 (.tmp 2) (.tmp 41) rfl g _ rfl rfl 34 _ HB2.out (by kernel_rfl) rfl (by simp [Value.oneCell']) ?_))
      refine bodyPost_ret (results_cell2 rfl _ _ _ g _ rfl (run_loadVar_row _ g _ _ _ _ _ (setRow_heap _ g _ _ _ _ HB2.out) Try.underlying34 rfl (by kernel_rfl))) rfl ?_
      first
        | exact ⟨none, 0, by rw [hd2.out]; rfl, by rw [hd2.out]; exact Rd.nil _ _, HF.out.row (.inr hgw.out)⟩
        | exact ⟨none, ⟨0, by rw [hd2.out]; rfl⟩, by rw [hd2.out]; exact Rd.nil _ _, HF.out.row (.inr hgw.out)⟩

    by_cases hk6 : 6 < k
    · obtain rfl : k = 7 := by omega
      have hd : Hid (decM l = (mnone, 2)) := by show decM l = (mnone, 2); unfold decM; rw [if_neg Hff.out, if_pos (by rw [Hk.out]; omega)]
      have hd2 : Hid (decAll p = (mnone, 2)) := by show decAll p = _; rw [hD.out, hd.out]; rfl
      go_wp2_with (first | (refine wpList_load_row rfl 34 (.tmp 4) rfl (g + 1) rfl 34 _ (0, 0) _ HB4.out Try.underlying34 rfl (by kernel_rfl) ?_) | (refine wpList_store_row rfl 34 (.tmp 2) (.tmp 41) rfl g _ rfl rfl 34 _ HB2.out (by kernel_rfl) rfl (by simp [Value.oneCell']) ?_))
      refine bodyPost_ret (results_cell2 rfl _ _ _ g _ rfl (run_loadVar_row _ g _ _ _ _ _ (setRow_heap _ g _ _ _ _ HB2.out) Try.underlying34 rfl (by kernel_rfl))) rfl ?_
      first
        | exact ⟨none, 0, by rw [hd2.out]; rfl, by rw [hd2.out]; exact Rd.nil _ _, HF.out.row (.inr hgw.out)⟩
        | exact ⟨none, ⟨0, by rw [hd2.out]; rfl⟩, by rw [hd2.out]; exact Rd.nil _ _, HF.out.row (.inr hgw.out)⟩

    have HGT := Lib.hid (iget_at HI.out 6 6 rfl (by omega))
    have tlt := gt_lt l (nx l (0, false) 3) 6
    obtain ⟨t, ht⟩ : ∃ t, gt l (nx l (0, false) 3) 6 = t := ⟨_, rfl⟩
    rw [ht] at HGT tlt
    have Ht := Lib.hid ht
    clear ht
    go_wp2_with fail
    refine HGT.out.mono ?_
    rintro e wn ⟨rfl, RN, FN⟩
    replace HB2 := Lib.hid (FN.heap HB2.out hr2.out)
    replace HB4 := Lib.hid (FN.heap HB4.out hr4.out)
    replace HB5 := Lib.hid (FN.heap HB5.out hr5.out)
    replace HF := Lib.hid (HF.out.trans FN (fun i hi => .inr (by rw [show i = r from hi]; exact hrw.out)))
    replace HI := Lib.hid RN
    clear RN FN HGT
    have i1 : IntKind.i64.wrap (t : Int) = (t : Int) := by rw [IntKind.wrap_i64]; omega
    clear m0 hfl

    obtain ⟨q0, q1, q2, q3, q4, q5, q6, z0, z1, z2, z3, z4, z5, z6⟩ := seven HB5.out
    clear q0 z0 q2 z2 q3 z3 q4 z4 q5 z5 q6 z6
    have fs : Fr (fun i => i = g + 2) wn (wn.setCell ⟨g + 2, 1, none⟩ (.int .i64 (t : Int))) := (Fr.refl (fun i => i = g + 2) wn).setCell (p := ⟨g + 2, 1, none⟩) (.inl rfl) (.int .i64 (t : Int))
    replace HB5 := Lib.hid (show _ = some (Obj.cells #[.int .u8 (k : Int), .int .i64 (t : Int), .int .i64 0, .int .i64 0, .int .i64 0, .bool false, .slice none 0 0] 34 (0, 0)) from blk_set HB5.out 1 (.int .i64 (t : Int)))
    replace HB2 := Lib.hid (fs.heap HB2.out (fun e => by have e2 : g = g + 2 := e; omega))
    replace HB4 := Lib.hid (fs.heap HB4.out (fun e => by have e2 : g + 1 = g + 2 := e; omega))
    replace HI := Lib.hid (HI.out.fr fs (fun e => hr5.out (Eq.symm e)) (fun k hk e => by have := hk.1; have e2 : k = g + 2 := e; omega))
    replace HF := Lib.hid (HF.out.trans fs (fun i hi => .inr (by rw [show i = g + 2 from hi]; have := hgw.out; omega)))
    clear fs

    go_upto_region 12 with (fail)
    obtain ⟨wx, hwx⟩ : ∃ wx, wn.setCell ⟨g + 2, 1, none⟩ (.int .i64 (t : Int)) = wx := ⟨_, rfl⟩
    rw [hwx] at HB2 HB4 HB5 HI HF ⊢
    clear hwx q1 z1

    have HGT := Lib.hid (iget_at HI.out 25 25 rfl (by omega))
    have tmlt := gt_lt l (nx l (nx l (0, false) 3) 6) 25
    obtain ⟨tm, htm⟩ : ∃ tm, gt l (nx l (nx l (0, false) 3) 6) 25 = tm := ⟨_, rfl⟩
    rw [htm] at HGT tmlt
    have Htm := Lib.hid htm
    clear htm
    go_wp2_with fail
    refine HGT.out.mono ?_
    rintro e wn ⟨rfl, RN, FN⟩
    replace HB2 := Lib.hid (FN.heap HB2.out hr2.out)
    replace HB4 := Lib.hid (FN.heap HB4.out hr4.out)
    replace HB5 := Lib.hid (FN.heap HB5.out hr5.out)
    replace HF := Lib.hid (HF.out.trans FN (fun i hi => .inr (by rw [show i = r from hi]; exact hrw.out)))
    replace HI := Lib.hid RN
    clear RN FN HGT
    have i2 : IntKind.i64.wrap (tm : Int) = (tm : Int) := by rw [IntKind.wrap_i64]; omega

    obtain ⟨q0, q1, q2, q3, q4, q5, q6, z0, z1, z2, z3, z4, z5, z6⟩ := seven HB5.out
    clear q0 z0 q1 z1 q3 z3 q4 z4 q5 z5 q6 z6
    have fs : Fr (fun i => i = g + 2) wn (wn.setCell ⟨g + 2, 2, none⟩ (.int .i64 (tm : Int))) := (Fr.refl (fun i => i = g + 2) wn).setCell (p := ⟨g + 2, 2, none⟩) (.inl rfl) (.int .i64 (tm : Int))
    replace HB5 := Lib.hid (show _ = some (Obj.cells #[.int .u8 (k : Int), .int .i64 (t : Int), .int .i64 (tm : Int), .int .i64 0, .int .i64 0, .bool false, .slice none 0 0] 34 (0, 0)) from blk_set HB5.out 2 (.int .i64 (tm : Int)))
    replace HB2 := Lib.hid (fs.heap HB2.out (fun e => by have e2 : g = g + 2 := e; omega))
    replace HB4 := Lib.hid (fs.heap HB4.out (fun e => by have e2 : g + 1 = g + 2 := e; omega))
    replace HI := Lib.hid (HI.out.fr fs (fun e => hr5.out (Eq.symm e)) (fun k hk e => by have := hk.1; have e2 : k = g + 2 := e; omega))
    replace HF := Lib.hid (HF.out.trans fs (fun i hi => .inr (by rw [show i = g + 2 from hi]; have := hgw.out; omega)))
    clear fs

    go_upto_region 13 with (fail)
    obtain ⟨wx, hwx⟩ : ∃ wx, wn.setCell ⟨g + 2, 2, none⟩ (.int .i64 (tm : Int)) = wx := ⟨_, rfl⟩
    rw [hwx] at HB2 HB4 HB5 HI HF ⊢
    clear hwx q2 z2
    have m0 := (seven HB5.out).1
    by_cases hk3 : k = 3
    · subst hk3

      have HGT := Lib.hid (iget_at HI.out 1 1 rfl (by omega))
      have ddlt := gt_lt l (nx l (nx l (nx l (0, false) 3) 6) 25) 1
      obtain ⟨dd, hdd⟩ : ∃ dd, gt l (nx l (nx l (nx l (0, false) 3) 6) 25) 1 = dd := ⟨_, rfl⟩
      rw [hdd] at HGT ddlt
      have Hdd := Lib.hid hdd
      clear hdd
      go_wp2_with fail
      refine HGT.out.mono ?_
      rintro e wn ⟨rfl, RN, FN⟩
      replace HB2 := Lib.hid (FN.heap HB2.out hr2.out)
      replace HB4 := Lib.hid (FN.heap HB4.out hr4.out)
      replace HB5 := Lib.hid (FN.heap HB5.out hr5.out)
      replace HF := Lib.hid (HF.out.trans FN (fun i hi => .inr (by rw [show i = r from hi]; exact hrw.out)))
      replace HI := Lib.hid RN
      clear RN FN HGT
      have i3 : IntKind.i64.wrap (dd : Int) = (dd : Int) := by rw [IntKind.wrap_i64]; omega
      clear m0

      obtain ⟨q0, q1, q2, q3, q4, q5, q6, z0, z1, z2, z3, z4, z5, z6⟩ := seven HB5.out
      clear q0 z0 q1 z1 q2 z2 q4 z4 q5 z5 q6 z6
      have fs : Fr (fun i => i = g + 2) wn (wn.setCell ⟨g + 2, 3, none⟩ (.int .i64 (dd : Int))) := (Fr.refl (fun i => i = g + 2) wn).setCell (p := ⟨g + 2, 3, none⟩) (.inl rfl) (.int .i64 (dd : Int))
      replace HB5 := Lib.hid (show _ = some (Obj.cells #[.int .u8 3, .int .i64 (t : Int), .int .i64 (tm : Int), .int .i64 (dd : Int), .int .i64 0, .bool false, .slice none 0 0] 34 (0, 0)) from blk_set HB5.out 3 (.int .i64 (dd : Int)))
      replace HB2 := Lib.hid (fs.heap HB2.out (fun e => by have e2 : g = g + 2 := e; omega))
      replace HB4 := Lib.hid (fs.heap HB4.out (fun e => by have e2 : g + 1 = g + 2 := e; omega))
      replace HI := Lib.hid (HI.out.fr fs (fun e => hr5.out (Eq.symm e)) (fun k hk e => by have := hk.1; have e2 : k = g + 2 := e; omega))
      replace HF := Lib.hid (HF.out.trans fs (fun i hi => .inr (by rw [show i = g + 2 from hi]; have := hgw.out; omega)))
      clear fs

      go_upto_region 15 with (fail)
      obtain ⟨wx, hwx⟩ : ∃ wx, wn.setCell ⟨g + 2, 3, none⟩ (.int .i64 (dd : Int)) = wx := ⟨_, rfl⟩
      rw [hwx] at HB2 HB4 HB5 HI HF ⊢
      clear hwx q3 z3

      have HGT := Lib.hid (iget_at HI.out 14 14 rfl (by omega))
      have aalt := gt_lt l (nx l (nx l (nx l (nx l (0, false) 3) 6) 25) 1) 14
      obtain ⟨aa, haa⟩ : ∃ aa, gt l (nx l (nx l (nx l (nx l (0, false) 3) 6) 25) 1) 14 = aa := ⟨_, rfl⟩
      rw [haa] at HGT aalt
      have Haa := Lib.hid haa
      clear haa
      go_wp2_with fail
      refine HGT.out.mono ?_
      rintro e wn ⟨rfl, RN, FN⟩
      replace HB2 := Lib.hid (FN.heap HB2.out hr2.out)
      replace HB4 := Lib.hid (FN.heap HB4.out hr4.out)
      replace HB5 := Lib.hid (FN.heap HB5.out hr5.out)
      replace HF := Lib.hid (HF.out.trans FN (fun i hi => .inr (by rw [show i = r from hi]; exact hrw.out)))
      replace HI := Lib.hid RN
      clear RN FN HGT
      have i4 : IntKind.i64.wrap (aa : Int) = (aa : Int) := by rw [IntKind.wrap_i64]; omega

      obtain ⟨q0, q1, q2, q3, q4, q5, q6, z0, z1, z2, z3, z4, z5, z6⟩ := seven HB5.out
      clear q0 z0 q1 z1 q2 z2 q3 z3 q5 z5 q6 z6
      have fs : Fr (fun i => i = g + 2) wn (wn.setCell ⟨g + 2, 4, none⟩ (.int .i64 (aa : Int))) := (Fr.refl (fun i => i = g + 2) wn).setCell (p := ⟨g + 2, 4, none⟩) (.inl rfl) (.int .i64 (aa : Int))
      replace HB5 := Lib.hid (show _ = some (Obj.cells #[.int .u8 3, .int .i64 (t : Int), .int .i64 (tm : Int), .int .i64 (dd : Int), .int .i64 (aa : Int), .bool false, .slice none 0 0] 34 (0, 0)) from blk_set HB5.out 4 (.int .i64 (aa : Int)))
      replace HB2 := Lib.hid (fs.heap HB2.out (fun e => by have e2 : g = g + 2 := e; omega))
      replace HB4 := Lib.hid (fs.heap HB4.out (fun e => by have e2 : g + 1 = g + 2 := e; omega))
      replace HI := Lib.hid (HI.out.fr fs (fun e => hr5.out (Eq.symm e)) (fun k hk e => by have := hk.1; have e2 : k = g + 2 := e; omega))
      replace HF := Lib.hid (HF.out.trans fs (fun i hi => .inr (by rw [show i = g + 2 from hi]; have := hgw.out; omega)))
      clear fs

      go_upto_region 16 with (fail)
      obtain ⟨wx, hwx⟩ : ∃ wx, wn.setCell ⟨g + 2, 4, none⟩ (.int .i64 (aa : Int)) = wx := ⟨_, rfl⟩
      rw [hwx] at HB2 HB4 HB5 HI HF ⊢
      clear hwx q4 z4

      have HGT := Lib.hid (iget_at HI.out 1 1 rfl (by omega))
      have b1lt := gt_lt l (nx l (nx l (nx l (nx l (nx l (0, false) 3) 6) 25) 1) 14) 1
      obtain ⟨b1, hb1⟩ : ∃ b1, gt l (nx l (nx l (nx l (nx l (nx l (0, false) 3) 6) 25) 1) 14) 1 = b1 := ⟨_, rfl⟩
      rw [hb1] at HGT b1lt
      have Hb1 := Lib.hid hb1
      clear hb1
      go_wp2_with fail
      refine HGT.out.mono ?_
      rintro e wn ⟨rfl, RN, FN⟩
      replace HB2 := Lib.hid (FN.heap HB2.out hr2.out)
      replace HB4 := Lib.hid (FN.heap HB4.out hr4.out)
      replace HB5 := Lib.hid (FN.heap HB5.out hr5.out)
      replace HF := Lib.hid (HF.out.trans FN (fun i hi => .inr (by rw [show i = r from hi]; exact hrw.out)))
      replace HI := Lib.hid RN
      clear RN FN HGT
      obtain ⟨bb, hbb⟩ : ∃ bb, decide (b1 = 1) = bb := ⟨_, rfl⟩
      have hb1 : ((b1 : Int) == 1) = bb := by
        rw [← hbb, Bool.eq_iff_iff]
        simp
        omega
      have Hbb : Hid (decide (gt l (nx l (nx l (nx l (nx l (nx l (0, false) 3) 6) 25) 1) 14) 1 = 1) = bb) := by show decide (gt l (nx l (nx l (nx l (nx l (nx l (0, false) 3) 6) 25) 1) 14) 1 = 1) = bb; rw [Hb1.out, hbb]
      clear hbb

      obtain ⟨q0, q1, q2, q3, q4, q5, q6, z0, z1, z2, z3, z4, z5, z6⟩ := seven HB5.out
      clear q0 z0 q1 z1 q2 z2 q3 z3 q4 z4 q6 z6
      have fs : Fr (fun i => i = g + 2) wn (wn.setCell ⟨g + 2, 5, none⟩ (.bool bb)) := (Fr.refl (fun i => i = g + 2) wn).setCell (p := ⟨g + 2, 5, none⟩) (.inl rfl) (.bool bb)
      replace HB5 := Lib.hid (show _ = some (Obj.cells #[.int .u8 3, .int .i64 (t : Int), .int .i64 (tm : Int), .int .i64 (dd : Int), .int .i64 (aa : Int), .bool bb, .slice none 0 0] 34 (0, 0)) from blk_set HB5.out 5 (.bool bb))
      replace HB2 := Lib.hid (fs.heap HB2.out (fun e => by have e2 : g = g + 2 := e; omega))
      replace HB4 := Lib.hid (fs.heap HB4.out (fun e => by have e2 : g + 1 = g + 2 := e; omega))
      replace HI := Lib.hid (HI.out.fr fs (fun e => hr5.out (Eq.symm e)) (fun k hk e => by have := hk.1; have e2 : k = g + 2 := e; omega))
      replace HF := Lib.hid (HF.out.trans fs (fun i hi => .inr (by rw [show i = g + 2 from hi]; have := hgw.out; omega)))
      clear fs

      go_upto_region 17 with (fail)
      obtain ⟨wx, hwx⟩ : ∃ wx, wn.setCell ⟨g + 2, 5, none⟩ (.bool bb) = wx := ⟨_, rfl⟩
      rw [hwx] at HB2 HB4 HB5 HI HF ⊢
      clear hwx q5 z5
      have m0 := (seven HB5.out).1
      clear hb1

      have HGT := Lib.hid (iget_at HI.out 4 4 rfl (by omega))
      have nlt := gt_lt l (nx l (nx l (nx l (nx l (nx l (nx l (0, false) 3) 6) 25) 1) 14) 1) 4
      obtain ⟨n, hn⟩ : ∃ n, gt l (nx l (nx l (nx l (nx l (nx l (nx l (0, false) 3) 6) 25) 1) 14) 1) 4 = n := ⟨_, rfl⟩
      rw [hn] at HGT nlt
      have Hn := Lib.hid hn
      clear hn
      go_wp2_with fail
      refine HGT.out.mono ?_
      rintro e wn ⟨rfl, RN, FN⟩
      replace HB2 := Lib.hid (FN.heap HB2.out hr2.out)
      replace HB4 := Lib.hid (FN.heap HB4.out hr4.out)
      replace HB5 := Lib.hid (FN.heap HB5.out hr5.out)
      replace HF := Lib.hid (HF.out.trans FN (fun i hi => .inr (by rw [show i = r from hi]; exact hrw.out)))
      replace HI := Lib.hid RN
      clear RN FN HGT
      have i5 : IntKind.i64.wrap (n : Int) = (n : Int) := by rw [IntKind.wrap_i64]; omega
      have hTS : Hid (trailS l (nx l (nx l (nx l (nx l (nx l (nx l (0, false) 3) 6) 25) 1) 14) 1) = manyS l (nx l (nx l (nx l (nx l (nx l (nx l (nx l (0, false) 3) 6) 25) 1) 14) 1) 4) 6 n) := by show trailS l (nx l (nx l (nx l (nx l (nx l (nx l (0, false) 3) 6) 25) 1) 14) 1) = _; unfold trailS; rw [Hn.out]
      have hTL : Hid (trailL l (nx l (nx l (nx l (nx l (nx l (nx l (0, false) 3) 6) 25) 1) 14) 1) = manyL l (nx l (nx l (nx l (nx l (nx l (nx l (nx l (0, false) 3) 6) 25) 1) 14) 1) 4) 6 n) := by show trailL l (nx l (nx l (nx l (nx l (nx l (nx l (0, false) 3) 6) 25) 1) 14) 1) = _; unfold trailL; rw [Hn.out]
      have hdec : Hid (decM l = fin l ⟨3, t, tm, dd, aa, bb, trailL l (nx l (nx l (nx l (nx l (nx l (nx l (0, false) 3) 6) 25) 1) 14) 1)⟩ (trailS l (nx l (nx l (nx l (nx l (nx l (nx l (0, false) 3) 6) 25) 1) 14) 1))) := by
        show decM l = fin l ⟨3, t, tm, dd, aa, bb, trailL l (nx l (nx l (nx l (nx l (nx l (nx l (0, false) 3) 6) 25) 1) 14) 1)⟩ (trailS l (nx l (nx l (nx l (nx l (nx l (nx l (0, false) 3) 6) 25) 1) 14) 1))
        unfold decM; rw [if_neg Hff.out, if_neg (by rw [Hk.out]; omega), if_pos Hk.out, Ht.out, Htm.out, Hdd.out, Haa.out, Hbb.out]
      obtain ⟨s4, hs4⟩ : ∃ s4, nx l (nx l (nx l (nx l (nx l (nx l (nx l (0, false) 3) 6) 25) 1) 14) 1) 4 = s4 := ⟨_, rfl⟩
      rw [hs4] at HI hTS hTL
      have hOn : Own wn 3 (.slice none 0 0) (ints .i64 (manyL l s4 6 0)) := Own.nil _ _
      have HON := Lib.hid hOn
      clear hOn hs4 m0
      go_wp2
      go_loopg [10] n (fun gk i wr => ∃ (j : Nat) (A' : Option Addr) (c' : Nat), j + gk = n ∧ i = .int .i64 (j : Int) ∧ Hid (wr.heap[g]? = some (.cells #[.int .u8 0, .int .i64 0, .int .i64 0, .int .i64 0, .int .i64 0, .bool false, .slice none 0 0] 34 (0, 0))) ∧ Hid (wr.heap[g + 1]? = some (.cells #[.int .u8 0, .int .i64 0, .int .i64 0, .int .i64 0, .int .i64 0, .bool false, .slice none 0 0] 34 (0, 0))) ∧ Hid (wr.heap[g + 2]? = some (.cells #[.int .u8 3, .int .i64 (t : Int), .int .i64 (tm : Int), .int .i64 (dd : Int), .int .i64 (aa : Int), .bool bb, .slice A' j c'] 34 (0, 0))) ∧ Hid (Own wr 3 (.slice A' j c') (ints .i64 (manyL l s4 6 j))) ∧ Hid (∀ k, (Value.slice A' j c').ownBlock = some k → r < k) ∧ Hid (InAt wr r (fun k => g + 3 ≤ k ∧ k < r) l (manyS l s4 6 j)) ∧ Hid (Fr No w wr))
      case atStart => exact ⟨0, none, 0, by omega, rfl, HB2, HB4, HB5, HON, (by show ∀ k, _; intro k e; simp [Value.ownBlock] at e), HI, HF⟩
      case round =>
        clear HB2 HB4 HB5 HON HI HF
        obtain ⟨j, A', c', hj, rfl, HB2, HB4, HB5, HO, NA, HI, HF⟩ := hrel
        by_cases hjn : j < n
        · have D4 := (Fr.refl No wr).drew
          have HG := Lib.hid (iget_at (HI.out.fr D4 (fun k => k) (fun _ _ k => k)) 6 6 rfl (by omega))
          have ylt := gt_lt l (manyS l s4 6 j) 6
          obtain ⟨y, hy⟩ : ∃ y, gt l (manyS l s4 6 j) 6 = y := ⟨_, rfl⟩
          have hsucc : Hid (manyL l s4 6 (j + 1) = manyL l s4 6 j ++ [(y : Int)]) := by show manyL l s4 6 (j + 1) = _; rw [← hy]; rfl
          have hlen := manyL_length l s4 6 j
          rw [hy] at HG ylt
          have i6 : IntKind.i64.wrap (y : Int) = (y : Int) := by rw [IntKind.wrap_i64]; omega
          obtain ⟨q0, q1, q2, q3, q4, q5, q6, z0, z1, z2, z3, z4, z5, z6⟩ := seven HB5.out
          have HFD := Lib.hid (HF.out.trans D4 (fun _ k => k.elim))
          have rlt := Lib.hid HI.out.lt
          have HOd := Lib.hid (HO.out.fr D4 (fun _ _ k => k))
          clear q0 q1 q2 q3 q4 q5 z0 z1 z2 z3 z4 z5 z6 hy D4
          go_wp2
          go_region_law (first
            | (refine step_own_append rfl (.tmp 82) (.tmp 86) 32 3 (.int .i64 0) 8 rfl Try.underlying32 infoInt rfl (by decide) _ (ints .i64 (manyL l s4 6 j)) (.int .i64 (y : Int)) _ (by rfl) (by rfl) (by rw [blk_cell (blk_new _ _)]; rfl) rfl (OA.alloc _) (by rw [ints_length]; omega) ?_
               intro v4 w4 o4 f4 a4
               obtain ⟨A4, c4, hv4, b2b, b4b, b5b, Ib, Fb, Nb⟩ := after_append (n := j + 1) (by rw [List.length_append, ints_length, hlen]; rfl) NA.out hrg.out hrw.out IA Fa b2a b4a b5a o4 f4 a4
               subst hv4
               have c6b := (seven b5b).2.2.2.2.2.2.1
               have z6b := (seven b5b).2.2.2.2.2.2.2.2.2.2.2.2.2)
            | (go_simp
               go_at_call 37
               refine HG.out.mono ?_
               rintro e wa ⟨rfl, IA, FA⟩
               have OA := HOd.out.fr (S := RS r) FA (fun q hq e => by have h1 := NA.out q hq; have h2 : q = r := e; omega)
               have b2a := FA.heap HB2.out hr2.out
               have b4a := FA.heap HB4.out hr4.out
               have b5a := FA.heap HB5.out hr5.out
               have c6a := (seven b5a).2.2.2.2.2.2.1
               have c6al := (seven (blk_alloc b5a (.cells #[.int .i64 (y : Int)] 3))).2.2.2.2.2.2.1
               have Fa := HFD.out.trans FA (fun i hi => .inr (by rw [show i = r from hi]; exact hrw.out))))
          all_goals
            have fs : Fr (fun i => i = g + 2) w4 (w4.setCell ⟨g + 2, 6, none⟩ (.slice A4 (j + 1) c4)) := (Fr.refl (fun i => i = g + 2) w4).setCell (p := ⟨g + 2, 6, none⟩) (.inl rfl) (.slice A4 (j + 1) c4)
            have k5 : (w4.setCell ⟨g + 2, 6, none⟩ (.slice A4 (j + 1) c4)).heap[g + 2]? = some (Obj.cells #[.int .u8 3, .int .i64 (t : Int), .int .i64 (tm : Int), .int .i64 (dd : Int), .int .i64 (aa : Int), .bool bb, .slice A4 (j + 1) c4] 34 (0, 0)) := blk_set b5b 6 (.slice A4 (j + 1) c4)
            have k2 := fs.heap b2b (fun e => by have e2 : g = g + 2 := e; omega)
            have k4 := fs.heap b4b (fun e => by have e2 : g + 1 = g + 2 := e; omega)
            have kI := Ib.fr fs (fun e => by have := hrg.out; omega) (fun k hk e => by have := hk.1; have e2 : k = g + 2 := e; omega)
            have kO := o4.fr fs (fun k hk e => by have := Nb k hk; have := hrg.out; have e2 : k = g + 2 := e; omega)
            have kF := Fb.trans fs (fun i hi => .inr (by rw [show i = g + 2 from hi]; have := hgw.out; omega))
            rw [show ints .i64 (manyL l s4 6 j) ++ [Value.int .i64 (y : Int)] = ints .i64 (manyL l s4 6 (j + 1)) by rw [hsucc.out, ints_append]; rfl] at kO
            have K2 := Lib.hid k2
            have K4 := Lib.hid k4
            have K5 := Lib.hid k5
            have KI := Lib.hid kI
            have KO := Lib.hid kO
            have KF := Lib.hid kF
            have KN := Lib.hid Nb
            clear k2 k4 k5 kI kO kF fs Nb o4 f4 a4 b2a b4a b5a b2b b4b b5b Ib Fb
            go_wp2
            go_roundg (n - (j + 1))
            case measure => omega
            case rel => exact ⟨j + 1, A4, c4, by omega, by go_num, K2, K4, K5, KO, KN, KI, KF⟩
        · obtain rfl : j = n := by omega
          obtain ⟨A4, c4, hv, hnA, _, RT⟩ := HO.out.shape2
          have hAb : ∀ ad, A' = some ad → ad.block ≠ g := by
            intro ad e
            obtain ⟨A5, c5, h5, _, h6, _⟩ := HO.out.shape
            injection h5 with e5
            have := NA.out _ (h6 ad (by rw [← e5]; exact e))
            have := hrg.out
            omega
          rw [← hTS.out] at HI
          rw [ints_length, manyL_length] at hv
          injection hv with e1 _ e3
          subst e1 e3
          rw [← hTL.out] at RT
          have HTR := Lib.hid RT
          have hlT : Hid ((trailL l (nx l (nx l (nx l (nx l (nx l (nx l (0, false) 3) 6) 25) 1) 14) 1)).length = j) := by show (trailL l (nx l (nx l (nx l (nx l (nx l (nx l (0, false) 3) 6) 25) 1) 14) 1)).length = j; rw [hTL.out, manyL_length]
          have hAg := Lib.hid hAb
          clear RT hAb hnA
          have hfl := HI.out.failed
          by_cases hf : (trailS l (nx l (nx l (nx l (nx l (nx l (nx l (0, false) 3) 6) 25) 1) 14) 1)).2 = true
          · have hd2 : Hid (decAll p = (mnone, 4)) := by show decAll p = _; rw [hD.out, hdec.out]; unfold fin; rw [if_pos hf]; rfl
            rw [hf] at hfl
            clear hf
            go_wp2_with (first | (refine wpList_load_row rfl 34 (.tmp 4) rfl (g + 1) rfl 34 _ (0, 0) _ HB4.out Try.underlying34 rfl (by kernel_rfl) ?_) | (refine wpList_store_row rfl 34 (.tmp 2) (.tmp 93) rfl g _ rfl rfl 34 _ HB2.out (by kernel_rfl) rfl (by simp [Value.oneCell']) ?_))
            refine bodyPost_ret (results_cell2 rfl _ _ _ g _ rfl (run_loadVar_row _ g _ _ _ _ _ (setRow_heap _ g _ _ _ _ HB2.out) Try.underlying34 rfl (by kernel_rfl))) rfl ?_
            first
              | exact ⟨none, 0, by rw [hd2.out]; rfl, by rw [hd2.out]; exact Rd.nil _ _, HF.out.row (.inr hgw.out)⟩
              | exact ⟨none, ⟨0, by rw [hd2.out]; rfl⟩, by rw [hd2.out]; exact Rd.nil _ _, HF.out.row (.inr hgw.out)⟩

          have hff : (trailS l (nx l (nx l (nx l (nx l (nx l (nx l (0, false) 3) 6) 25) 1) 14) 1)).2 = false := by simpa using hf
          rw [hff] at hfl
          have HE := Lib.hid (iend_at HI.out)
          rw [hff] at HE
          by_cases hq : ends l (trailS l (nx l (nx l (nx l (nx l (nx l (nx l (0, false) 3) 6) 25) 1) 14) 1)).1 false = true
          · have hd2 : Hid (decAll p = (⟨3, t, tm, dd, aa, bb, trailL l (nx l (nx l (nx l (nx l (nx l (nx l (0, false) 3) 6) 25) 1) 14) 1)⟩, 0)) := by show decAll p = _; rw [hD.out, hdec.out]; unfold fin; rw [if_neg hf, hff, if_pos hq]; rfl
            rw [hq] at HE
            clear hf hff hq
            go_wp2_with fail
            refine HE.out.mono ?_
            rintro e wk ⟨rfl, rfl⟩
            go_wp2_with (first | (refine wpList_load_row rfl 34 (.tmp 5) rfl (g + 2) rfl 34 _ (0, 0) _ HB5.out Try.underlying34 rfl (by kernel_rfl) ?_) | (refine wpList_store_row rfl 34 (.tmp 2) (.tmp 98) rfl g _ rfl rfl 34 _ HB2.out (by kernel_rfl) rfl (by simp [Value.oneCell']) ?_))
            refine bodyPost_ret (results_cell2 rfl _ _ _ g _ rfl (run_loadVar_row _ g _ _ _ _ _ (setRow_heap _ g _ _ _ _ HB2.out) Try.underlying34 rfl (by kernel_rfl))) rfl ?_
            first
              | exact ⟨A', c', by rw [hd2.out]; simp only [mval, hlT.out]; rfl, by rw [hd2.out]; exact HTR.out.row hAg.out _, HF.out.row (.inr hgw.out)⟩
              | exact ⟨A', ⟨c', by rw [hd2.out]; simp only [mval, hlT.out]; rfl⟩, by rw [hd2.out]; exact HTR.out.row hAg.out _, HF.out.row (.inr hgw.out)⟩
          have hqf : ends l (trailS l (nx l (nx l (nx l (nx l (nx l (nx l (0, false) 3) 6) 25) 1) 14) 1)).1 false = false := by simpa using hq
          have hd2 : Hid (decAll p = (mnone, 2)) := by show decAll p = _; rw [hD.out, hdec.out]; unfold fin; rw [if_neg hf, hff, if_neg hq]; rfl
          rw [hqf] at HE
          clear hf hff hq hqf
          go_wp2_with fail
          refine HE.out.mono ?_
          rintro e wk ⟨rfl, rfl⟩

          go_wp2_with (first | (refine wpList_load_row rfl 34 (.tmp 4) rfl (g + 1) rfl 34 _ (0, 0) _ HB4.out Try.underlying34 rfl (by kernel_rfl) ?_) | (refine wpList_store_row rfl 34 (.tmp 2) (.tmp 97) rfl g _ rfl rfl 34 _ HB2.out (by kernel_rfl) rfl (by simp [Value.oneCell']) ?_))
          refine bodyPost_ret (results_cell2 rfl _ _ _ g _ rfl (run_loadVar_row _ g _ _ _ _ _ (setRow_heap _ g _ _ _ _ HB2.out) Try.underlying34 rfl (by kernel_rfl))) rfl ?_
          first
            | exact ⟨none, 0, by rw [hd2.out]; rfl, by rw [hd2.out]; exact Rd.nil _ _, HF.out.row (.inr hgw.out)⟩
            | exact ⟨none, ⟨0, by rw [hd2.out]; rfl⟩, by rw [hd2.out]; exact Rd.nil _ _, HF.out.row (.inr hgw.out)⟩
    by_cases hk66 : k = 6
    · subst hk66
      go_upto_region 18 with (fail)

      have HGT := Lib.hid (iget_at HI.out 4 4 rfl (by omega))
      have nlt := gt_lt l (nx l (nx l (nx l (0, false) 3) 6) 25) 4
      obtain ⟨n, hn⟩ : ∃ n, gt l (nx l (nx l (nx l (0, false) 3) 6) 25) 4 = n := ⟨_, rfl⟩
      rw [hn] at HGT nlt
      have Hn := Lib.hid hn
      clear hn
      go_wp2_with fail
      refine HGT.out.mono ?_
      rintro e wn ⟨rfl, RN, FN⟩
      replace HB2 := Lib.hid (FN.heap HB2.out hr2.out)
      replace HB4 := Lib.hid (FN.heap HB4.out hr4.out)
      replace HB5 := Lib.hid (FN.heap HB5.out hr5.out)
      replace HF := Lib.hid (HF.out.trans FN (fun i hi => .inr (by rw [show i = r from hi]; exact hrw.out)))
      replace HI := Lib.hid RN
      clear RN FN HGT
      have i5 : IntKind.i64.wrap (n : Int) = (n : Int) := by rw [IntKind.wrap_i64]; omega
      have hTS : Hid (trailS l (nx l (nx l (nx l (0, false) 3) 6) 25) = manyS l (nx l (nx l (nx l (nx l (0, false) 3) 6) 25) 4) 6 n) := by show trailS l (nx l (nx l (nx l (0, false) 3) 6) 25) = _; unfold trailS; rw [Hn.out]
      have hTL : Hid (trailL l (nx l (nx l (nx l (0, false) 3) 6) 25) = manyL l (nx l (nx l (nx l (nx l (0, false) 3) 6) 25) 4) 6 n) := by show trailL l (nx l (nx l (nx l (0, false) 3) 6) 25) = _; unfold trailL; rw [Hn.out]
      have hdec : Hid (decM l = fin l ⟨6, t, tm, 0, 0, false, trailL l (nx l (nx l (nx l (0, false) 3) 6) 25)⟩ (trailS l (nx l (nx l (nx l (0, false) 3) 6) 25))) := by
        show decM l = fin l ⟨6, t, tm, 0, 0, false, trailL l (nx l (nx l (nx l (0, false) 3) 6) 25)⟩ (trailS l (nx l (nx l (nx l (0, false) 3) 6) 25))
        unfold decM; rw [if_neg Hff.out, if_neg (by rw [Hk.out]; omega), if_neg (by rw [Hk.out]; omega), if_pos Hk.out, Ht.out, Htm.out]
      obtain ⟨s4, hs4⟩ : ∃ s4, nx l (nx l (nx l (nx l (0, false) 3) 6) 25) 4 = s4 := ⟨_, rfl⟩
      rw [hs4] at HI hTS hTL
      have hOn : Own wn 3 (.slice none 0 0) (ints .i64 (manyL l s4 6 0)) := Own.nil _ _
      have HON := Lib.hid hOn
      clear hOn hs4 m0
      go_wp2
      go_loopg [10] n (fun gk i wr => ∃ (j : Nat) (A' : Option Addr) (c' : Nat), j + gk = n ∧ i = .int .i64 (j : Int) ∧ Hid (wr.heap[g]? = some (.cells #[.int .u8 0, .int .i64 0, .int .i64 0, .int .i64 0, .int .i64 0, .bool false, .slice none 0 0] 34 (0, 0))) ∧ Hid (wr.heap[g + 1]? = some (.cells #[.int .u8 0, .int .i64 0, .int .i64 0, .int .i64 0, .int .i64 0, .bool false, .slice none 0 0] 34 (0, 0))) ∧ Hid (wr.heap[g + 2]? = some (.cells #[.int .u8 6, .int .i64 (t : Int), .int .i64 (tm : Int), .int .i64 0, .int .i64 0, .bool false, .slice A' j c'] 34 (0, 0))) ∧ Hid (Own wr 3 (.slice A' j c') (ints .i64 (manyL l s4 6 j))) ∧ Hid (∀ k, (Value.slice A' j c').ownBlock = some k → r < k) ∧ Hid (InAt wr r (fun k => g + 3 ≤ k ∧ k < r) l (manyS l s4 6 j)) ∧ Hid (Fr No w wr))
      case atStart => exact ⟨0, none, 0, by omega, rfl, HB2, HB4, HB5, HON, (by show ∀ k, _; intro k e; simp [Value.ownBlock] at e), HI, HF⟩
      case round =>
        clear HB2 HB4 HB5 HON HI HF
        obtain ⟨j, A', c', hj, rfl, HB2, HB4, HB5, HO, NA, HI, HF⟩ := hrel
        by_cases hjn : j < n
        · have D4 := (Fr.refl No wr).drew
          have HG := Lib.hid (iget_at (HI.out.fr D4 (fun k => k) (fun _ _ k => k)) 6 6 rfl (by omega))
          have ylt := gt_lt l (manyS l s4 6 j) 6
          obtain ⟨y, hy⟩ : ∃ y, gt l (manyS l s4 6 j) 6 = y := ⟨_, rfl⟩
          have hsucc : Hid (manyL l s4 6 (j + 1) = manyL l s4 6 j ++ [(y : Int)]) := by show manyL l s4 6 (j + 1) = _; rw [← hy]; rfl
          have hlen := manyL_length l s4 6 j
          rw [hy] at HG ylt
          have i6 : IntKind.i64.wrap (y : Int) = (y : Int) := by rw [IntKind.wrap_i64]; omega
          obtain ⟨q0, q1, q2, q3, q4, q5, q6, z0, z1, z2, z3, z4, z5, z6⟩ := seven HB5.out
          have HFD := Lib.hid (HF.out.trans D4 (fun _ k => k.elim))
          have rlt := Lib.hid HI.out.lt
          have HOd := Lib.hid (HO.out.fr D4 (fun _ _ k => k))
          clear q0 q1 q2 q3 q4 q5 z0 z1 z2 z3 z4 z5 z6 hy D4
          go_wp2
          go_region_law (first
            | (refine step_own_append rfl (.tmp 82) (.tmp 86) 32 3 (.int .i64 0) 8 rfl Try.underlying32 infoInt rfl (by decide) _ (ints .i64 (manyL l s4 6 j)) (.int .i64 (y : Int)) _ (by rfl) (by rfl) (by rw [blk_cell (blk_new _ _)]; rfl) rfl (OA.alloc _) (by rw [ints_length]; omega) ?_
               intro v4 w4 o4 f4 a4
               obtain ⟨A4, c4, hv4, b2b, b4b, b5b, Ib, Fb, Nb⟩ := after_append (n := j + 1) (by rw [List.length_append, ints_length, hlen]; rfl) NA.out hrg.out hrw.out IA Fa b2a b4a b5a o4 f4 a4
               subst hv4
               have c6b := (seven b5b).2.2.2.2.2.2.1
               have z6b := (seven b5b).2.2.2.2.2.2.2.2.2.2.2.2.2)
            | (go_simp
               go_at_call 37
               refine HG.out.mono ?_
               rintro e wa ⟨rfl, IA, FA⟩
               have OA := HOd.out.fr (S := RS r) FA (fun q hq e => by have h1 := NA.out q hq; have h2 : q = r := e; omega)
               have b2a := FA.heap HB2.out hr2.out
               have b4a := FA.heap HB4.out hr4.out
               have b5a := FA.heap HB5.out hr5.out
               have c6a := (seven b5a).2.2.2.2.2.2.1
               have c6al := (seven (blk_alloc b5a (.cells #[.int .i64 (y : Int)] 3))).2.2.2.2.2.2.1
               have Fa := HFD.out.trans FA (fun i hi => .inr (by rw [show i = r from hi]; exact hrw.out))))
          all_goals
            have fs : Fr (fun i => i = g + 2) w4 (w4.setCell ⟨g + 2, 6, none⟩ (.slice A4 (j + 1) c4)) := (Fr.refl (fun i => i = g + 2) w4).setCell (p := ⟨g + 2, 6, none⟩) (.inl rfl) (.slice A4 (j + 1) c4)
            have k5 : (w4.setCell ⟨g + 2, 6, none⟩ (.slice A4 (j + 1) c4)).heap[g + 2]? = some (Obj.cells #[.int .u8 6, .int .i64 (t : Int), .int .i64 (tm : Int), .int .i64 0, .int .i64 0, .bool false, .slice A4 (j + 1) c4] 34 (0, 0)) := blk_set b5b 6 (.slice A4 (j + 1) c4)
            have k2 := fs.heap b2b (fun e => by have e2 : g = g + 2 := e; omega)
            have k4 := fs.heap b4b (fun e => by have e2 : g + 1 = g + 2 := e; omega)
            have kI := Ib.fr fs (fun e => by have := hrg.out; omega) (fun k hk e => by have := hk.1; have e2 : k = g + 2 := e; omega)
            have kO := o4.fr fs (fun k hk e => by have := Nb k hk; have := hrg.out; have e2 : k = g + 2 := e; omega)
            have kF := Fb.trans fs (fun i hi => .inr (by rw [show i = g + 2 from hi]; have := hgw.out; omega))
            rw [show ints .i64 (manyL l s4 6 j) ++ [Value.int .i64 (y : Int)] = ints .i64 (manyL l s4 6 (j + 1)) by rw [hsucc.out, ints_append]; rfl] at kO
            have K2 := Lib.hid k2
            have K4 := Lib.hid k4
            have K5 := Lib.hid k5
            have KI := Lib.hid kI
            have KO := Lib.hid kO
            have KF := Lib.hid kF
            have KN := Lib.hid Nb
            clear k2 k4 k5 kI kO kF fs Nb o4 f4 a4 b2a b4a b5a b2b b4b b5b Ib Fb
            go_wp2
            go_roundg (n - (j + 1))
            case measure => omega
            case rel => exact ⟨j + 1, A4, c4, by omega, by go_num, K2, K4, K5, KO, KN, KI, KF⟩
        · obtain rfl : j = n := by omega
          obtain ⟨A4, c4, hv, hnA, _, RT⟩ := HO.out.shape2
          have hAb : ∀ ad, A' = some ad → ad.block ≠ g := by
            intro ad e
            obtain ⟨A5, c5, h5, _, h6, _⟩ := HO.out.shape
            injection h5 with e5
            have := NA.out _ (h6 ad (by rw [← e5]; exact e))
            have := hrg.out
            omega
          rw [← hTS.out] at HI
          rw [ints_length, manyL_length] at hv
          injection hv with e1 _ e3
          subst e1 e3
          rw [← hTL.out] at RT
          have HTR := Lib.hid RT
          have hlT : Hid ((trailL l (nx l (nx l (nx l (0, false) 3) 6) 25)).length = j) := by show (trailL l (nx l (nx l (nx l (0, false) 3) 6) 25)).length = j; rw [hTL.out, manyL_length]
          have hAg := Lib.hid hAb
          clear RT hAb hnA
          have hfl := HI.out.failed
          by_cases hf : (trailS l (nx l (nx l (nx l (0, false) 3) 6) 25)).2 = true
          · have hd2 : Hid (decAll p = (mnone, 4)) := by show decAll p = _; rw [hD.out, hdec.out]; unfold fin; rw [if_pos hf]; rfl
            rw [hf] at hfl
            clear hf
            go_wp2_with (first | (refine wpList_load_row rfl 34 (.tmp 4) rfl (g + 1) rfl 34 _ (0, 0) _ HB4.out Try.underlying34 rfl (by kernel_rfl) ?_) | (refine wpList_store_row rfl 34 (.tmp 2) (.tmp 93) rfl g _ rfl rfl 34 _ HB2.out (by kernel_rfl) rfl (by simp [Value.oneCell']) ?_))
            refine bodyPost_ret (results_cell2 rfl _ _ _ g _ rfl (run_loadVar_row _ g _ _ _ _ _ (setRow_heap _ g _ _ _ _ HB2.out) Try.underlying34 rfl (by kernel_rfl))) rfl ?_
            first
              | exact ⟨none, 0, by rw [hd2.out]; rfl, by rw [hd2.out]; exact Rd.nil _ _, HF.out.row (.inr hgw.out)⟩
              | exact ⟨none, ⟨0, by rw [hd2.out]; rfl⟩, by rw [hd2.out]; exact Rd.nil _ _, HF.out.row (.inr hgw.out)⟩

          have hff : (trailS l (nx l (nx l (nx l (0, false) 3) 6) 25)).2 = false := by simpa using hf
          rw [hff] at hfl
          have HE := Lib.hid (iend_at HI.out)
          rw [hff] at HE
          by_cases hq : ends l (trailS l (nx l (nx l (nx l (0, false) 3) 6) 25)).1 false = true
          · have hd2 : Hid (decAll p = (⟨6, t, tm, 0, 0, false, trailL l (nx l (nx l (nx l (0, false) 3) 6) 25)⟩, 0)) := by show decAll p = _; rw [hD.out, hdec.out]; unfold fin; rw [if_neg hf, hff, if_pos hq]; rfl
            rw [hq] at HE
            clear hf hff hq
            go_wp2_with fail
            refine HE.out.mono ?_
            rintro e wk ⟨rfl, rfl⟩
            go_wp2_with (first | (refine wpList_load_row rfl 34 (.tmp 5) rfl (g + 2) rfl 34 _ (0, 0) _ HB5.out Try.underlying34 rfl (by kernel_rfl) ?_) | (refine wpList_store_row rfl 34 (.tmp 2) (.tmp 98) rfl g _ rfl rfl 34 _ HB2.out (by kernel_rfl) rfl (by simp [Value.oneCell']) ?_))
            refine bodyPost_ret (results_cell2 rfl _ _ _ g _ rfl (run_loadVar_row _ g _ _ _ _ _ (setRow_heap _ g _ _ _ _ HB2.out) Try.underlying34 rfl (by kernel_rfl))) rfl ?_
            first
              | exact ⟨A', c', by rw [hd2.out]; simp only [mval, hlT.out]; rfl, by rw [hd2.out]; exact HTR.out.row hAg.out _, HF.out.row (.inr hgw.out)⟩
              | exact ⟨A', ⟨c', by rw [hd2.out]; simp only [mval, hlT.out]; rfl⟩, by rw [hd2.out]; exact HTR.out.row hAg.out _, HF.out.row (.inr hgw.out)⟩
          have hqf : ends l (trailS l (nx l (nx l (nx l (0, false) 3) 6) 25)).1 false = false := by simpa using hq
          have hd2 : Hid (decAll p = (mnone, 2)) := by show decAll p = _; rw [hD.out, hdec.out]; unfold fin; rw [if_neg hf, hff, if_neg hq]; rfl
          rw [hqf] at HE
          clear hf hff hq hqf
          go_wp2_with fail
          refine HE.out.mono ?_
          rintro e wk ⟨rfl, rfl⟩

          go_wp2_with (first | (refine wpList_load_row rfl 34 (.tmp 4) rfl (g + 1) rfl 34 _ (0, 0) _ HB4.out Try.underlying34 rfl (by kernel_rfl) ?_) | (refine wpList_store_row rfl 34 (.tmp 2) (.tmp 97) rfl g _ rfl rfl 34 _ HB2.out (by kernel_rfl) rfl (by simp [Value.oneCell']) ?_))
          refine bodyPost_ret (results_cell2 rfl _ _ _ g _ rfl (run_loadVar_row _ g _ _ _ _ _ (setRow_heap _ g _ _ _ _ HB2.out) Try.underlying34 rfl (by kernel_rfl))) rfl ?_
          first
            | exact ⟨none, 0, by rw [hd2.out]; rfl, by rw [hd2.out]; exact Rd.nil _ _, HF.out.row (.inr hgw.out)⟩
            | exact ⟨none, ⟨0, by rw [hd2.out]; rfl⟩, by rw [hd2.out]; exact Rd.nil _ _, HF.out.row (.inr hgw.out)⟩

    have hdec : Hid (decM l = fin l ⟨k, t, tm, 0, 0, false, []⟩ (nx l (nx l (nx l (0, false) 3) 6) 25)) := by
      show decM l = fin l ⟨k, t, tm, 0, 0, false, []⟩ (nx l (nx l (nx l (0, false) 3) 6) 25)
      unfold decM; rw [if_neg Hff.out, if_neg (by rw [Hk.out]; omega), if_neg (by rw [Hk.out]; omega), if_neg (by rw [Hk.out]; omega), Hk.out, Ht.out, Htm.out]
    have hk3i : ¬ (k : Int) = 3 := by omega
    have hk6i : ¬ (k : Int) = 6 := by omega
    have hAg : Hid (∀ ad, (none : Option Addr) = some ad → ad.block ≠ g) := by
      show ∀ ad, _
      intro ad e
      cases e
    have HTR := Lib.hid (Rd.nil wx none)

    have hfl := HI.out.failed
    by_cases hf : (nx l (nx l (nx l (0, false) 3) 6) 25).2 = true
    · have hd2 : Hid (decAll p = (mnone, 4)) := by show decAll p = _; rw [hD.out, hdec.out]; unfold fin; rw [if_pos hf]; rfl
      rw [hf] at hfl
      clear hf
      go_wp2_with (first | (refine wpList_load_row rfl 34 (.tmp 4) rfl (g + 1) rfl 34 _ (0, 0) _ HB4.out Try.underlying34 rfl (by kernel_rfl) ?_) | (refine wpList_store_row rfl 34 (.tmp 2) (.tmp 93) rfl g _ rfl rfl 34 _ HB2.out (by kernel_rfl) rfl (by simp [Value.oneCell']) ?_))
      refine bodyPost_ret (results_cell2 rfl _ _ _ g _ rfl (run_loadVar_row _ g _ _ _ _ _ (setRow_heap _ g _ _ _ _ HB2.out) Try.underlying34 rfl (by kernel_rfl))) rfl ?_
      first
        | exact ⟨none, 0, by rw [hd2.out]; rfl, by rw [hd2.out]; exact Rd.nil _ _, HF.out.row (.inr hgw.out)⟩
        | exact ⟨none, ⟨0, by rw [hd2.out]; rfl⟩, by rw [hd2.out]; exact Rd.nil _ _, HF.out.row (.inr hgw.out)⟩

    have hff : (nx l (nx l (nx l (0, false) 3) 6) 25).2 = false := by simpa using hf
    rw [hff] at hfl
    have HE := Lib.hid (iend_at HI.out)
    rw [hff] at HE
    by_cases hq : ends l (nx l (nx l (nx l (0, false) 3) 6) 25).1 false = true
    · have hd2 : Hid (decAll p = (⟨k, t, tm, 0, 0, false, []⟩, 0)) := by show decAll p = _; rw [hD.out, hdec.out]; unfold fin; rw [if_neg hf, hff, if_pos hq]; rfl
      rw [hq] at HE
      clear hf hff hq
      go_wp2_with fail
      refine HE.out.mono ?_
      rintro e wk ⟨rfl, rfl⟩
      go_wp2_with (first | (refine wpList_load_row rfl 34 (.tmp 5) rfl (g + 2) rfl 34 _ (0, 0) _ HB5.out Try.underlying34 rfl (by kernel_rfl) ?_) | (refine wpList_store_row rfl 34 (.tmp 2) (.tmp 98) rfl g _ rfl rfl 34 _ HB2.out (by kernel_rfl) rfl (by simp [Value.oneCell']) ?_))
      refine bodyPost_ret (results_cell2 rfl _ _ _ g _ rfl (run_loadVar_row _ g _ _ _ _ _ (setRow_heap _ g _ _ _ _ HB2.out) Try.underlying34 rfl (by kernel_rfl))) rfl ?_
      first
        | exact ⟨none, 0, by rw [hd2.out]; rfl, by rw [hd2.out]; exact HTR.out.row hAg.out _, HF.out.row (.inr hgw.out)⟩
        | exact ⟨none, ⟨0, by rw [hd2.out]; rfl⟩, by rw [hd2.out]; exact HTR.out.row hAg.out _, HF.out.row (.inr hgw.out)⟩
    have hqf : ends l (nx l (nx l (nx l (0, false) 3) 6) 25).1 false = false := by simpa using hq
    have hd2 : Hid (decAll p = (mnone, 2)) := by show decAll p = _; rw [hD.out, hdec.out]; unfold fin; rw [if_neg hf, hff, if_neg hq]; rfl
    rw [hqf] at HE
    clear hf hff hq hqf
    go_wp2_with fail
    refine HE.out.mono ?_
    rintro e wk ⟨rfl, rfl⟩

    go_wp2_with (first | (refine wpList_load_row rfl 34 (.tmp 4) rfl (g + 1) rfl 34 _ (0, 0) _ HB4.out Try.underlying34 rfl (by kernel_rfl) ?_) | (refine wpList_store_row rfl 34 (.tmp 2) (.tmp 97) rfl g _ rfl rfl 34 _ HB2.out (by kernel_rfl) rfl (by simp [Value.oneCell']) ?_))
    refine bodyPost_ret (results_cell2 rfl _ _ _ g _ rfl (run_loadVar_row _ g _ _ _ _ _ (setRow_heap _ g _ _ _ _ HB2.out) Try.underlying34 rfl (by kernel_rfl))) rfl ?_
    first
      | exact ⟨none, 0, by rw [hd2.out]; rfl, by rw [hd2.out]; exact Rd.nil _ _, HF.out.row (.inr hgw.out)⟩
      | exact ⟨none, ⟨0, by rw [hd2.out]; rfl⟩, by rw [hd2.out]; exact Rd.nil _ _, HF.out.row (.inr hgw.out)⟩

  · have hD : Hid (decAll p = (mnone, code p)) := by show decAll p = _; unfold decAll; rw [if_neg h0]
    obtain ⟨k, hk⟩ : ∃ k, code p = k := ⟨_, rfl⟩
    rw [hk] at h0 hD ⊢
    clear R F1 HO hk
    go_wp2_with (first | (refine wpList_load_row rfl 34 (.tmp 4) rfl (g + 1) rfl 34 _ (0, 0) _ HB4.out Try.underlying34 rfl (by kernel_rfl) ?_) | (refine wpList_store_row rfl 34 (.tmp 2) (.tmp 18) rfl g _ rfl rfl 34 _ HB2.out (by kernel_rfl) rfl (by simp [Value.oneCell']) ?_))
    refine bodyPost_ret (results_cell2 rfl _ _ _ g _ rfl (run_loadVar_row _ g _ _ _ _ _ (setRow_heap _ g _ _ _ _ HB2.out) Try.underlying34 rfl (by kernel_rfl))) rfl ?_
    first
      | exact ⟨none, 0, by rw [hD.out]; rfl, by rw [hD.out]; exact Rd.nil _ _, HF.out.row (.inr hgw.out)⟩
      | exact ⟨none, ⟨0, by rw [hD.out]; rfl⟩, by rw [hD.out]; exact Rd.nil _ _, HF.out.row (.inr hgw.out)⟩
end Go.Proofs.Ytngjfebndhmlmaa
