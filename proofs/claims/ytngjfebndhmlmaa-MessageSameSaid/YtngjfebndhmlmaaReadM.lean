import Derived.Test.YtngjfebndhmlmaaMsgP
import Derived.ScopeJumps
import Derived.WalkMore
import Derived.Laws.Tables
import Derived.Laws.Rows
namespace Go.Proofs.Ytngjfebndhmlmaa
open Go.RowKit Go

theorem seven {w : World} {g : Nat} {t : TypeId} {c0 c1 c2 c3 c4 c5 c6 : Value} (h : w.heap[g]? = some (.cells #[c0, c1, c2, c3, c4, c5, c6] t (0, 0))) :
    w.cell? ⟨g, 0, none⟩ = some c0 ∧ w.cell? ⟨g, 1, none⟩ = some c1 ∧ w.cell? ⟨g, 2, none⟩ = some c2 ∧ w.cell? ⟨g, 3, none⟩ = some c3 ∧ w.cell? ⟨g, 4, none⟩ = some c4 ∧ w.cell? ⟨g, 5, none⟩ = some c5 ∧ w.cell? ⟨g, 6, none⟩ = some c6 ∧
    w.frozen? ⟨g, 0, none⟩ = false ∧ w.frozen? ⟨g, 1, none⟩ = false ∧ w.frozen? ⟨g, 2, none⟩ = false ∧ w.frozen? ⟨g, 3, none⟩ = false ∧ w.frozen? ⟨g, 4, none⟩ = false ∧ w.frozen? ⟨g, 5, none⟩ = false ∧ w.frozen? ⟨g, 6, none⟩ = false := by
  refine ⟨?_, ?_, ?_, ?_, ?_, ?_, ?_, blk_free h 0, blk_free h 1, blk_free h 2, blk_free h 3, blk_free h 4, blk_free h 5, blk_free h 6⟩ <;> (rw [blk_cell h]; rfl)

/-- The results of a function whose first result lies in a block. -/
theorem results_cell2 {fn : Func} {t u : Tmp} {ty : TypeId} (h : fn.results = #[.cell t ty, .tmp u]) (tmps : Array Value) (P : Program) (w : World) (g : Nat) (cs : Array Value)
    (ht : tmps.getD t undef = .pointer (some ⟨g, 0, none⟩)) (hl : (loadVar ty ⟨g, 0, none⟩).run P w = .ok (.agg cs) w) :
    (results fn tmps).run P w = .ok (.tuple #[.agg cs, tmps.getD u undef]) w := by
  have ht' : tmps[t]?.getD undef = .pointer (some ⟨g, 0, none⟩) := by simpa using ht
  simp only [results, h]
  simp [ht', asAddr, hl]

theorem eval_set_ne {tm : Array Value} {i j : Nat} {v p : Value} (hij : i ≠ j) (h2 : tm[j]? = some p) : (Act.mk (tm.setIfInBounds i v) []).eval (.tmp j) = p := by
  show (tm.setIfInBounds i v).getD j undef = p
  rw [Array.getD_eq_getD_getElem?, Array.getElem?_setIfInBounds_ne hij, h2]; rfl
theorem eval_set_eq {tm : Array Value} {i : Nat} {v : Value} (h : i < tm.size) : (Act.mk (tm.setIfInBounds i v) []).eval (.tmp i) = v := by
  show (tm.setIfInBounds i v).getD i undef = v
  rw [Array.getD_eq_getD_getElem?, Array.getElem?_setIfInBounds_self_of_lt h]; rfl
theorem Fr.row {S : Nat → Prop} {w w1 : World} {g : Nat} {cs : Array Value} (h : Fr S w w1) (hg : S g ∨ w.heap.size ≤ g) : Fr S w (w1.setRow g cs) :=
  h.trans (T := fun k => k = g) ⟨rfl, rfl, rfl, by simp [World.setRow], fun k _ hk => by simp only [World.setRow, Array.getElem?_modify]; rw [if_neg (fun e => hk e.symm)]⟩ (fun i hi => by rw [hi]; exact hg)
theorem Rd.row {w : World} {A : Option Addr} {xs : List Value} {g : Nat} (h : Rd w A xs) (hA : ∀ ad, A = some ad → ad.block ≠ g) (cs : Array Value) : Rd (w.setRow g cs) A xs :=
  h.fr (S := fun k => k = g) ((Fr.refl _ w).row (.inl rfl)) (fun ad e => hA ad e)

set_option maxRecDepth 20000 in
set_option maxHeartbeats 8000000 in
theorem read_any {w : World} {r : Nat} {B : Option Addr} {d : Nat} {l : List UInt8} (h : RdAt w r B d l (0, false)) :
    Calls Try.prog 26 #[.pointer (some ⟨r, 0, none⟩)] w fun e w' => ∃ A c, e = .returned (.tuple #[mval (decM l).1 A c, .int .i64 (decM l).2]) ∧ Rd w' A (ints .i64 (decM l).1.tr) ∧ (∀ ad, A = some ad → w.heap.size ≤ ad.block) ∧ Fr (RS r) w w' := by
  have hrl : Hid (r < w.heap.size) := blk_lt h.blk
  have hBl : Hid (∀ ad, B = some ad → ad.block < w.heap.size) := h.lt
  have F0 := (Fr.refl (RS r) w).alloc (.cells #[.int .u8 0, .int .i64 0, .int .i64 0, .int .i64 0, .int .i64 0, .bool false, .slice none 0 0] 34)
  have F0' := (Fr.refl No w).alloc (.cells #[.int .u8 0, .int .i64 0, .int .i64 0, .int .i64 0, .int .i64 0, .bool false, .slice none 0 0] 34)
  have R0 := h.fr F0' (fun k => k) (fun _ _ k => k)
  have B0 : (w.alloc (.cells #[.int .u8 0, .int .i64 0, .int .i64 0, .int .i64 0, .int .i64 0, .bool false, .slice none 0 0] 34)).heap[w.heap.size]? = some (.cells #[.int .u8 0, .int .i64 0, .int .i64 0, .int .i64 0, .int .i64 0, .bool false, .slice none 0 0] 34 (0, 0)) := blk_new _ _
  obtain ⟨g, hg⟩ : ∃ g, w.heap.size = g := ⟨_, rfl⟩
  rw [hg] at B0
  have HB := Lib.hid B0
  have HF := Lib.hid F0
  have HR := Lib.hid R0
  have hgr : Hid (¬ RS r g) := by show ¬ RS r g; intro e; have e2 : g = r := e; have := hrl.out; omega
  have hgw : Hid (w.heap.size ≤ g) := by show w.heap.size ≤ g; omega
  clear h R0 B0 F0 F0'
  go_enter Try.func26, Try.ntmps26
  go_wp2
  refine wp_scope_jumps 0 (fun a' w' => (a'.defers = [] ∧ a'.tmps.size = 60 ∧ a'.tmps[2]? = some (.pointer (some ⟨g, 0, none⟩))) ∧ (∃ c0 c1 c2 c3 c4 c5 c6 : Value, w'.heap[g]? = some (.cells #[c0, c1, c2, c3, c4, c5, c6] 34 (0, 0))) ∧ (decM l = (mnone, 4)) ∧ Fr (RS r) w w') (fun _ _ => 0) (by rfl) ?_ ?_
  · have HGT := Lib.hid (get_at HR.out 3 3 rfl)
    have klt := gt_lt l ((0, false)) 3
    obtain ⟨k, hk⟩ : ∃ k, gt l ((0, false)) 3 = k := ⟨_, rfl⟩
    rw [hk] at HGT klt
    have Hk := Lib.hid hk
    clear hk
    go_wp2_with fail
    refine HGT.out.mono ?_
    rintro e wn ⟨rfl, RN, FN⟩
    replace HB := Lib.hid (FN.heap HB.out hgr.out)
    replace HF := Lib.hid (HF.out.trans FN (fun i hi => .inl hi))
    replace HR := Lib.hid RN
    clear RN FN HGT
    have k8 : (k : Int) % 256 = (k : Int) := by omega
    obtain ⟨q0, q1, q2, q3, q4, q5, q6, z0, z1, z2, z3, z4, z5, z6⟩ := seven HB.out
    clear q1 z1 q2 z2 q3 z3 q4 z4 q5 z5 q6 z6
    have fs := (Fr.refl (fun i => i = g) wn).setCell (p := ⟨g, 0, none⟩) (.inl rfl) (.int .u8 (k : Int))

    replace HB := Lib.hid (show _ = some (Obj.cells #[.int .u8 (k : Int), .int .i64 0, .int .i64 0, .int .i64 0, .int .i64 0, .bool false, .slice none 0 0] 34 (0, 0)) from (blk_set HB.out 0 (.int .u8 (k : Int))))
    replace HR := Lib.hid (HR.out.fr fs (fun e => hgr.out e.symm) (fun ad e e2 => by have := hBl.out ad e; have := hgw.out; have e3 : ad.block = g := e2; omega))
    replace HF := Lib.hid (HF.out.trans fs (fun i hi => .inr (by rw [show i = g from hi]; exact hgw.out)))
    clear fs

    have hok := ok_any HR.out
    by_cases hf : (nx l (0, false) 3).2 = true
    · rw [hf] at hok
      have hd : Hid (decM l = (mnone, 4)) := by show decM l = (mnone, 4); unfold decM; rw [if_pos hf]
      have HOK := Lib.hid hok
      clear hok hf
      go_wp2_with fail
      refine HOK.out.mono ?_
      rintro e wk ⟨rfl, rfl⟩
      go_wp2
      go_step3
      exact ⟨rfl, ⟨⟨rfl, rfl, rfl⟩, ⟨_, _, _, _, _, _, _, HB.out⟩, hd.out, HF.out⟩⟩
    · have hff : (nx l (0, false) 3).2 = false := by simpa using hf
      rw [hff] at hok
      have HOK := Lib.hid hok
      have Hff := Lib.hid hf
      clear hok hf hff
      go_wp2_with fail
      refine HOK.out.mono ?_
      rintro e wk ⟨rfl, rfl⟩
      clear HOK q0 z0
      obtain ⟨wx, hwx⟩ : ∃ wx, wn.setCell ⟨g, 0, none⟩ (.int .u8 (k : Int)) = wx := ⟨_, rfl⟩
      rw [hwx] at HB HR HF ⊢
      clear hwx
      obtain ⟨q0, q1, q2, q3, q4, q5, q6, z0, z1, z2, z3, z4, z5, z6⟩ := seven HB.out
      clear q1 q2 q3 q4 q5 q6 z1 z2 z3 z4 z5 z6 z0
      by_cases hk1 : k < 1
      · obtain rfl : k = 0 := by omega
        have hd : Hid (decM l = (mnone, 2)) := by show decM l = (mnone, 2); unfold decM; rw [if_neg Hff.out, if_pos (by rw [Hk.out]; omega)]
        go_wp2_with (first | (refine wpList_store_row rfl 34 (.tmp 2) (.tmp 19) rfl g #[.int .u8 0, .int .i64 0, .int .i64 0, .int .i64 0, .int .i64 0, .bool false, .slice none 0 0] rfl rfl 34 _ HB.out (by kernel_rfl) rfl (by simp [Value.oneCell']) ?_))
        simp only [Exit.jump]
        refine bodyPost_ret (results_cell2 rfl _ _ _ g _ rfl (run_loadVar_row _ g _ _ _ _ _ (setRow_heap _ g _ _ _ _ HB.out) Try.underlying34 rfl (by kernel_rfl))) rfl ?_
        exact ⟨none, 0, by rw [hd.out]; rfl, by rw [hd.out]; exact Rd.nil _ _, (fun _ e => by cases e), HF.out.row (.inr hgw.out)⟩

      by_cases hk6 : 6 < k
      · obtain rfl : k = 7 := by omega
        have hd : Hid (decM l = (mnone, 2)) := by show decM l = (mnone, 2); unfold decM; rw [if_neg Hff.out, if_pos (by rw [Hk.out]; omega)]
        go_wp2_with (first | (refine wpList_store_row rfl 34 (.tmp 2) (.tmp 19) rfl g #[.int .u8 0, .int .i64 0, .int .i64 0, .int .i64 0, .int .i64 0, .bool false, .slice none 0 0] rfl rfl 34 _ HB.out (by kernel_rfl) rfl (by simp [Value.oneCell']) ?_))
        simp only [Exit.jump]
        refine bodyPost_ret (results_cell2 rfl _ _ _ g _ rfl (run_loadVar_row _ g _ _ _ _ _ (setRow_heap _ g _ _ _ _ HB.out) Try.underlying34 rfl (by kernel_rfl))) rfl ?_
        exact ⟨none, 0, by rw [hd.out]; rfl, by rw [hd.out]; exact Rd.nil _ _, (fun _ e => by cases e), HF.out.row (.inr hgw.out)⟩

      have HGT := Lib.hid (get_at HR.out 6 6 rfl)
      have tlt := gt_lt l (nx l (0, false) 3) 6
      obtain ⟨t, ht⟩ : ∃ t, gt l (nx l (0, false) 3) 6 = t := ⟨_, rfl⟩
      rw [ht] at HGT tlt
      have Ht := Lib.hid ht
      clear ht
      go_wp2_with fail
      refine HGT.out.mono ?_
      rintro e wn ⟨rfl, RN, FN⟩
      replace HB := Lib.hid (FN.heap HB.out hgr.out)
      replace HF := Lib.hid (HF.out.trans FN (fun i hi => .inl hi))
      replace HR := Lib.hid RN
      clear RN FN HGT

      have HGT := Lib.hid (get_at HR.out 25 25 rfl)
      have tmlt := gt_lt l (nx l (nx l (0, false) 3) 6) 25
      obtain ⟨tm, htm⟩ : ∃ tm, gt l (nx l (nx l (0, false) 3) 6) 25 = tm := ⟨_, rfl⟩
      rw [htm] at HGT tmlt
      have Htm := Lib.hid htm
      clear htm
      go_wp2_with fail
      refine HGT.out.mono ?_
      rintro e wn ⟨rfl, RN, FN⟩
      replace HB := Lib.hid (FN.heap HB.out hgr.out)
      replace HF := Lib.hid (HF.out.trans FN (fun i hi => .inl hi))
      replace HR := Lib.hid RN
      clear RN FN HGT
      have i1 : IntKind.i64.wrap (t : Int) = (t : Int) := by rw [IntKind.wrap_i64]; omega
      have i2 : IntKind.i64.wrap (tm : Int) = (tm : Int) := by rw [IntKind.wrap_i64]; omega
      obtain ⟨q0, q1, q2, q3, q4, q5, q6, z0, z1, z2, z3, z4, z5, z6⟩ := seven HB.out
      clear q0 z0 q3 z3 q4 z4 q5 z5 q6 z6
      have fs := ((Fr.refl (fun i => i = g) wn).setCell (p := ⟨g, 1, none⟩) (.inl rfl) (.int .i64 (t : Int))).setCell (p := ⟨g, 2, none⟩) (.inl rfl) (.int .i64 (tm : Int))

      replace HB := Lib.hid (show _ = some (Obj.cells #[.int .u8 (k : Int), .int .i64 (t : Int), .int .i64 (tm : Int), .int .i64 0, .int .i64 0, .bool false, .slice none 0 0] 34 (0, 0)) from (blk_set (blk_set HB.out 1 (.int .i64 (t : Int))) 2 (.int .i64 (tm : Int))))
      replace HR := Lib.hid (HR.out.fr fs (fun e => hgr.out e.symm) (fun ad e e2 => by have := hBl.out ad e; have := hgw.out; have e3 : ad.block = g := e2; omega))
      replace HF := Lib.hid (HF.out.trans fs (fun i hi => .inr (by rw [show i = g from hi]; exact hgw.out)))
      clear fs

      clear q0
      have c0 : ((wn.setCell ⟨g, 1, none⟩ (.int .i64 (t : Int))).setCell ⟨g, 2, none⟩ (.int .i64 (tm : Int))).cell? ⟨g, 0, none⟩ = some (.int .u8 (k : Int)) := (seven HB.out).1
      have c0' : wn.cell? ⟨g, 0, none⟩ = some (.int .u8 (k : Int)) := by
        rw [← c0]; symm
        rw [World.cell?_setCell_other, World.cell?_setCell_other] <;> simp
      clear c0
      by_cases hk3 : k = 3
      · have HGT := Lib.hid (get_at HR.out 1 1 rfl)
        have ddlt := gt_lt l (nx l (nx l (nx l (0, false) 3) 6) 25) 1
        obtain ⟨dd, hdd⟩ : ∃ dd, gt l (nx l (nx l (nx l (0, false) 3) 6) 25) 1 = dd := ⟨_, rfl⟩
        rw [hdd] at HGT ddlt
        have Hdd := Lib.hid hdd
        clear hdd
        subst hk3
        go_wp2_with fail
        refine HGT.out.mono ?_
        rintro e wn ⟨rfl, RN, FN⟩
        replace HB := Lib.hid (FN.heap HB.out hgr.out)
        replace HF := Lib.hid (HF.out.trans FN (fun i hi => .inl hi))
        replace HR := Lib.hid RN
        clear RN FN HGT

        have HGT := Lib.hid (get_at HR.out 14 14 rfl)
        have aalt := gt_lt l (nx l (nx l (nx l (nx l (0, false) 3) 6) 25) 1) 14
        obtain ⟨aa, haa⟩ : ∃ aa, gt l (nx l (nx l (nx l (nx l (0, false) 3) 6) 25) 1) 14 = aa := ⟨_, rfl⟩
        rw [haa] at HGT aalt
        have Haa := Lib.hid haa
        clear haa
        go_wp2_with fail
        refine HGT.out.mono ?_
        rintro e wn ⟨rfl, RN, FN⟩
        replace HB := Lib.hid (FN.heap HB.out hgr.out)
        replace HF := Lib.hid (HF.out.trans FN (fun i hi => .inl hi))
        replace HR := Lib.hid RN
        clear RN FN HGT

        have HFL := Lib.hid (flag_at HR.out)
        obtain ⟨bb, hbb⟩ : ∃ bb, decide (gt l (nx l (nx l (nx l (nx l (nx l (0, false) 3) 6) 25) 1) 14) 1 = 1) = bb := ⟨_, rfl⟩
        rw [hbb] at HFL
        have Hbb := Lib.hid hbb
        clear hbb
        go_wp2_with fail
        refine HFL.out.mono ?_
        rintro e wn ⟨rfl, RN, FN⟩
        replace HB := Lib.hid (FN.heap HB.out hgr.out)
        replace HF := Lib.hid (HF.out.trans FN (fun i hi => .inl hi))
        replace HR := Lib.hid RN
        clear RN FN HFL c0' q1 q2 z1 z2
        have i3 : IntKind.i64.wrap (dd : Int) = (dd : Int) := by rw [IntKind.wrap_i64]; omega
        have i4 : IntKind.i64.wrap (aa : Int) = (aa : Int) := by rw [IntKind.wrap_i64]; omega
        obtain ⟨q0, q1, q2, q3, q4, q5, q6, z0, z1, z2, z3, z4, z5, z6⟩ := seven HB.out
        clear q0 z0 q1 z1 q2 z2 q6 z6
        have fs := (((Fr.refl (fun i => i = g) wn).setCell (p := ⟨g, 3, none⟩) (.inl rfl) (.int .i64 (dd : Int))).setCell (p := ⟨g, 4, none⟩) (.inl rfl) (.int .i64 (aa : Int))).setCell (p := ⟨g, 5, none⟩) (.inl rfl) (.bool bb)

        replace HB := Lib.hid (show _ = some (Obj.cells #[.int .u8 3, .int .i64 (t : Int), .int .i64 (tm : Int), .int .i64 (dd : Int), .int .i64 (aa : Int), .bool bb, .slice none 0 0] 34 (0, 0)) from (blk_set (blk_set (blk_set HB.out 3 (.int .i64 (dd : Int))) 4 (.int .i64 (aa : Int))) 5 (.bool bb)))
        replace HR := Lib.hid (HR.out.fr fs (fun e => hgr.out e.symm) (fun ad e e2 => by have := hBl.out ad e; have := hgw.out; have e3 : ad.block = g := e2; omega))
        replace HF := Lib.hid (HF.out.trans fs (fun i hi => .inr (by rw [show i = g from hi]; exact hgw.out)))
        clear fs

        have HSC := Lib.hid (sections_any HR.out)
        have hwz := HF.out.size
        go_wp2_with fail
        refine HSC.out.mono ?_
        rintro e wn ⟨v, rfl, O, N, RN, FN⟩
        obtain ⟨A, c, rfl, _, hA, RT⟩ := O.shape
        have hAn : ∀ ad, A = some ad → ad.block ≠ g := fun ad e => by have h1 := N _ (hA ad e); have h2 := blk_lt HB.out; omega
        replace HB := Lib.hid (FN.heap HB.out hgr.out)
        replace HF := Lib.hid (HF.out.trans FN (fun i hi => .inl hi))
        replace HR := Lib.hid RN
        have hAg := Lib.hid hAn
        have hAN : Hid (∀ ad, A = some ad → w.heap.size ≤ ad.block) := by
          show ∀ ad, _
          exact fun ad e => Nat.le_trans hwz (N _ (hA ad e))
        have HTR := Lib.hid RT
        rw [ints_length]
        clear RN FN HSC O N hA RT hAn hwz
        clear q3 q4 q5 z3 z4 z5
        obtain ⟨q0, q1, q2, q3, q4, q5, q6, z0, z1, z2, z3, z4, z5, z6⟩ := seven HB.out
        clear q0 z0 q1 z1 q2 z2 q3 z3 q4 z4 q5 z5
        have fs := (Fr.refl (fun i => i = g) wn).setCell (p := ⟨g, 6, none⟩) (.inl rfl) (.slice A (trailL l (nx l (nx l (nx l (nx l (nx l (nx l (0, false) 3) 6) 25) 1) 14) 1)).length c)

        replace HB := Lib.hid (show _ = some (Obj.cells #[.int .u8 3, .int .i64 (t : Int), .int .i64 (tm : Int), .int .i64 (dd : Int), .int .i64 (aa : Int), .bool bb, .slice A (trailL l (nx l (nx l (nx l (nx l (nx l (nx l (0, false) 3) 6) 25) 1) 14) 1)).length c] 34 (0, 0)) from (blk_set HB.out 6 (.slice A (trailL l (nx l (nx l (nx l (nx l (nx l (nx l (0, false) 3) 6) 25) 1) 14) 1)).length c)))
        replace HR := Lib.hid (HR.out.fr fs (fun e => hgr.out e.symm) (fun ad e e2 => by have := hBl.out ad e; have := hgw.out; have e3 : ad.block = g := e2; omega))
        replace HF := Lib.hid (HF.out.trans fs (fun i hi => .inr (by rw [show i = g from hi]; exact hgw.out)))
        clear fs

        replace HTR := Lib.hid (HTR.out.fr (S := fun i => i = g) (show Fr (fun i => i = g) wn _ from (Fr.refl (fun i => i = g) wn).setCell (p := ⟨g, 6, none⟩) (.inl rfl) (.slice A (trailL l (nx l (nx l (nx l (nx l (nx l (nx l (0, false) 3) 6) 25) 1) 14) 1)).length c)) (fun ad e => hAg.out ad e))
        have hdec : Hid (decM l = fin l ⟨3, t, tm, dd, aa, bb, trailL l (nx l (nx l (nx l (nx l (nx l (nx l (0, false) 3) 6) 25) 1) 14) 1)⟩ (trailS l (nx l (nx l (nx l (nx l (nx l (nx l (0, false) 3) 6) 25) 1) 14) 1))) := by
          show decM l = fin l ⟨3, t, tm, dd, aa, bb, trailL l (nx l (nx l (nx l (nx l (nx l (nx l (0, false) 3) 6) 25) 1) 14) 1)⟩ (trailS l (nx l (nx l (nx l (nx l (nx l (nx l (0, false) 3) 6) 25) 1) 14) 1))
          unfold decM; rw [if_neg Hff.out, if_neg (by rw [Hk.out]; omega), if_pos Hk.out, Ht.out, Htm.out, Hdd.out, Haa.out, Hbb.out]

        have hok := ok_any HR.out
        by_cases hf : (trailS l (nx l (nx l (nx l (nx l (nx l (nx l (0, false) 3) 6) 25) 1) 14) 1)).2 = true
        · rw [hf] at hok
          have hd : Hid (decM l = (mnone, 4)) := by show decM l = (mnone, 4); rw [hdec.out]; unfold fin; rw [if_pos hf]
          have HOK := Lib.hid hok
          clear hok hf
          go_wp2_with fail
          refine HOK.out.mono ?_
          rintro e wk ⟨rfl, rfl⟩
          go_wp2
          go_step3
          exact ⟨rfl, ⟨⟨rfl, rfl, rfl⟩, ⟨_, _, _, _, _, _, _, HB.out⟩, hd.out, HF.out⟩⟩
        · have hff : (trailS l (nx l (nx l (nx l (nx l (nx l (nx l (0, false) 3) 6) 25) 1) 14) 1)).2 = false := by simpa using hf
          rw [hff] at hok
          have HOK := Lib.hid hok
          have HE := Lib.hid (rend_any HR.out)
          rw [hff] at HE
          by_cases hq : ends l (trailS l (nx l (nx l (nx l (nx l (nx l (nx l (0, false) 3) 6) 25) 1) 14) 1)).1 false = true
          · rw [hq] at HE
            have hd : Hid (decM l = (⟨3, t, tm, dd, aa, bb, trailL l (nx l (nx l (nx l (nx l (nx l (nx l (0, false) 3) 6) 25) 1) 14) 1)⟩, 0)) := by show decM l = (⟨3, t, tm, dd, aa, bb, trailL l (nx l (nx l (nx l (nx l (nx l (nx l (0, false) 3) 6) 25) 1) 14) 1)⟩, 0); rw [hdec.out]; unfold fin; rw [if_neg hf, hff, if_pos hq]
            clear hok hf hq hff
            go_wp2_with fail
            refine HOK.out.mono ?_
            rintro e wk ⟨rfl, rfl⟩
            go_wp2_with fail
            refine HE.out.mono ?_
            rintro e wm ⟨rfl, FM⟩
            replace HB := Lib.hid (FM.heap HB.out (fun k => k))
            have HTR2 := Lib.hid (HTR.out.no FM)
            have HF2 := Lib.hid (HF.out.trans FM (fun _ k => k.elim))
            go_wp2_with (first | (refine wpList_load_row rfl 34 (.tmp 2) rfl g rfl 34 _ (0, 0) _ HB.out Try.underlying34 rfl (by kernel_rfl) ?_) | (refine wpList_store_row rfl 34 (.tmp 2) (.tmp 58) rfl g _ rfl rfl 34 _ HB.out (by kernel_rfl) rfl (by simp [Value.oneCell']) ?_))
            simp only [Exit.jump]
            refine bodyPost_ret (results_cell2 rfl _ _ _ g _ rfl (run_loadVar_row _ g _ _ _ _ _ (setRow_heap _ g _ _ _ _ HB.out) Try.underlying34 rfl (by kernel_rfl))) rfl ?_
            exact ⟨A, c, by rw [hd.out]; rfl, by rw [hd.out]; exact HTR2.out.row hAg.out _, hAN.out, HF2.out.row (.inr hgw.out)⟩
          · have hqf : ends l (trailS l (nx l (nx l (nx l (nx l (nx l (nx l (0, false) 3) 6) 25) 1) 14) 1)).1 false = false := by simpa using hq
            rw [hqf] at HE
            have hd : Hid (decM l = (mnone, 2)) := by show decM l = (mnone, 2); rw [hdec.out]; unfold fin; rw [if_neg hf, hff, if_neg hq]
            clear hok hf hq hff hqf
            go_wp2_with fail
            refine HOK.out.mono ?_
            rintro e wk ⟨rfl, rfl⟩
            go_wp2_with fail
            refine HE.out.mono ?_
            rintro e wm ⟨rfl, FM⟩
            replace HB := Lib.hid (FM.heap HB.out (fun k => k))
            replace HF := Lib.hid (HF.out.trans FM (fun _ k => k.elim))
            go_wp2_with (first | (refine wpList_store_row rfl 34 (.tmp 2) (.tmp 57) rfl g #[.int .u8 0, .int .i64 0, .int .i64 0, .int .i64 0, .int .i64 0, .bool false, .slice none 0 0] rfl rfl 34 _ HB.out (by kernel_rfl) rfl (by simp [Value.oneCell']) ?_))
            simp only [Exit.jump]
            refine bodyPost_ret (results_cell2 rfl _ _ _ g _ rfl (run_loadVar_row _ g _ _ _ _ _ (setRow_heap _ g _ _ _ _ HB.out) Try.underlying34 rfl (by kernel_rfl))) rfl ?_
            exact ⟨none, 0, by rw [hd.out]; rfl, by rw [hd.out]; exact Rd.nil _ _, (fun _ e => by cases e), HF.out.row (.inr hgw.out)⟩
      by_cases hk66 : k = 6
      · subst hk66

        have HSC := Lib.hid (sections_any HR.out)
        have hwz := HF.out.size
        go_wp2_with fail
        refine HSC.out.mono ?_
        rintro e wn ⟨v, rfl, O, N, RN, FN⟩
        obtain ⟨A, c, rfl, _, hA, RT⟩ := O.shape
        have hAn : ∀ ad, A = some ad → ad.block ≠ g := fun ad e => by have h1 := N _ (hA ad e); have h2 := blk_lt HB.out; omega
        replace HB := Lib.hid (FN.heap HB.out hgr.out)
        replace HF := Lib.hid (HF.out.trans FN (fun i hi => .inl hi))
        replace HR := Lib.hid RN
        have hAg := Lib.hid hAn
        have hAN : Hid (∀ ad, A = some ad → w.heap.size ≤ ad.block) := by
          show ∀ ad, _
          exact fun ad e => Nat.le_trans hwz (N _ (hA ad e))
        have HTR := Lib.hid RT
        rw [ints_length]
        clear RN FN HSC O N hA RT hAn hwz
        clear q1 q2 z1 z2 c0'
        obtain ⟨q0, q1, q2, q3, q4, q5, q6, z0, z1, z2, z3, z4, z5, z6⟩ := seven HB.out
        clear q0 z0 q1 z1 q2 z2 q3 z3 q4 z4 q5 z5
        have fs := (Fr.refl (fun i => i = g) wn).setCell (p := ⟨g, 6, none⟩) (.inl rfl) (.slice A (trailL l (nx l (nx l (nx l (0, false) 3) 6) 25)).length c)

        replace HB := Lib.hid (show _ = some (Obj.cells #[.int .u8 6, .int .i64 (t : Int), .int .i64 (tm : Int), .int .i64 0, .int .i64 0, .bool false, .slice A (trailL l (nx l (nx l (nx l (0, false) 3) 6) 25)).length c] 34 (0, 0)) from (blk_set HB.out 6 (.slice A (trailL l (nx l (nx l (nx l (0, false) 3) 6) 25)).length c)))
        replace HR := Lib.hid (HR.out.fr fs (fun e => hgr.out e.symm) (fun ad e e2 => by have := hBl.out ad e; have := hgw.out; have e3 : ad.block = g := e2; omega))
        replace HF := Lib.hid (HF.out.trans fs (fun i hi => .inr (by rw [show i = g from hi]; exact hgw.out)))
        clear fs

        replace HTR := Lib.hid (HTR.out.fr (S := fun i => i = g) (show Fr (fun i => i = g) wn _ from (Fr.refl (fun i => i = g) wn).setCell (p := ⟨g, 6, none⟩) (.inl rfl) (.slice A (trailL l (nx l (nx l (nx l (0, false) 3) 6) 25)).length c)) (fun ad e => hAg.out ad e))
        have hdec : Hid (decM l = fin l ⟨6, t, tm, 0, 0, false, trailL l (nx l (nx l (nx l (0, false) 3) 6) 25)⟩ (trailS l (nx l (nx l (nx l (0, false) 3) 6) 25))) := by
          show decM l = fin l ⟨6, t, tm, 0, 0, false, trailL l (nx l (nx l (nx l (0, false) 3) 6) 25)⟩ (trailS l (nx l (nx l (nx l (0, false) 3) 6) 25))
          unfold decM; rw [if_neg Hff.out, if_neg (by rw [Hk.out]; omega), if_neg (by rw [Hk.out]; omega), if_pos Hk.out, Ht.out, Htm.out]

        have hok := ok_any HR.out
        by_cases hf : (trailS l (nx l (nx l (nx l (0, false) 3) 6) 25)).2 = true
        · rw [hf] at hok
          have hd : Hid (decM l = (mnone, 4)) := by show decM l = (mnone, 4); rw [hdec.out]; unfold fin; rw [if_pos hf]
          have HOK := Lib.hid hok
          clear hok hf
          go_wp2_with fail
          refine HOK.out.mono ?_
          rintro e wk ⟨rfl, rfl⟩
          go_wp2
          go_step3
          exact ⟨rfl, ⟨⟨rfl, rfl, rfl⟩, ⟨_, _, _, _, _, _, _, HB.out⟩, hd.out, HF.out⟩⟩
        · have hff : (trailS l (nx l (nx l (nx l (0, false) 3) 6) 25)).2 = false := by simpa using hf
          rw [hff] at hok
          have HOK := Lib.hid hok
          have HE := Lib.hid (rend_any HR.out)
          rw [hff] at HE
          by_cases hq : ends l (trailS l (nx l (nx l (nx l (0, false) 3) 6) 25)).1 false = true
          · rw [hq] at HE
            have hd : Hid (decM l = (⟨6, t, tm, 0, 0, false, trailL l (nx l (nx l (nx l (0, false) 3) 6) 25)⟩, 0)) := by show decM l = (⟨6, t, tm, 0, 0, false, trailL l (nx l (nx l (nx l (0, false) 3) 6) 25)⟩, 0); rw [hdec.out]; unfold fin; rw [if_neg hf, hff, if_pos hq]
            clear hok hf hq hff
            go_wp2_with fail
            refine HOK.out.mono ?_
            rintro e wk ⟨rfl, rfl⟩
            go_wp2_with fail
            refine HE.out.mono ?_
            rintro e wm ⟨rfl, FM⟩
            replace HB := Lib.hid (FM.heap HB.out (fun k => k))
            have HTR2 := Lib.hid (HTR.out.no FM)
            have HF2 := Lib.hid (HF.out.trans FM (fun _ k => k.elim))
            go_wp2_with (first | (refine wpList_load_row rfl 34 (.tmp 2) rfl g rfl 34 _ (0, 0) _ HB.out Try.underlying34 rfl (by kernel_rfl) ?_) | (refine wpList_store_row rfl 34 (.tmp 2) (.tmp 58) rfl g _ rfl rfl 34 _ HB.out (by kernel_rfl) rfl (by simp [Value.oneCell']) ?_))
            simp only [Exit.jump]
            refine bodyPost_ret (results_cell2 rfl _ _ _ g _ rfl (run_loadVar_row _ g _ _ _ _ _ (setRow_heap _ g _ _ _ _ HB.out) Try.underlying34 rfl (by kernel_rfl))) rfl ?_
            exact ⟨A, c, by rw [hd.out]; rfl, by rw [hd.out]; exact HTR2.out.row hAg.out _, hAN.out, HF2.out.row (.inr hgw.out)⟩
          · have hqf : ends l (trailS l (nx l (nx l (nx l (0, false) 3) 6) 25)).1 false = false := by simpa using hq
            rw [hqf] at HE
            have hd : Hid (decM l = (mnone, 2)) := by show decM l = (mnone, 2); rw [hdec.out]; unfold fin; rw [if_neg hf, hff, if_neg hq]
            clear hok hf hq hff hqf
            go_wp2_with fail
            refine HOK.out.mono ?_
            rintro e wk ⟨rfl, rfl⟩
            go_wp2_with fail
            refine HE.out.mono ?_
            rintro e wm ⟨rfl, FM⟩
            replace HB := Lib.hid (FM.heap HB.out (fun k => k))
            replace HF := Lib.hid (HF.out.trans FM (fun _ k => k.elim))
            go_wp2_with (first | (refine wpList_store_row rfl 34 (.tmp 2) (.tmp 57) rfl g #[.int .u8 0, .int .i64 0, .int .i64 0, .int .i64 0, .int .i64 0, .bool false, .slice none 0 0] rfl rfl 34 _ HB.out (by kernel_rfl) rfl (by simp [Value.oneCell']) ?_))
            simp only [Exit.jump]
            refine bodyPost_ret (results_cell2 rfl _ _ _ g _ rfl (run_loadVar_row _ g _ _ _ _ _ (setRow_heap _ g _ _ _ _ HB.out) Try.underlying34 rfl (by kernel_rfl))) rfl ?_
            exact ⟨none, 0, by rw [hd.out]; rfl, by rw [hd.out]; exact Rd.nil _ _, (fun _ e => by cases e), HF.out.row (.inr hgw.out)⟩

      have hdec : Hid (decM l = fin l ⟨k, t, tm, 0, 0, false, []⟩ (nx l (nx l (nx l (0, false) 3) 6) 25)) := by
        show decM l = fin l ⟨k, t, tm, 0, 0, false, []⟩ (nx l (nx l (nx l (0, false) 3) 6) 25)
        unfold decM; rw [if_neg Hff.out, if_neg (by rw [Hk.out]; omega), if_neg (by rw [Hk.out]; omega), if_neg (by rw [Hk.out]; omega), Hk.out, Ht.out, Htm.out]
      have hk3i : ¬ (k : Int) = 3 := by omega
      have hk6i : ¬ (k : Int) = 6 := by omega
      have hAg : Hid (∀ ad, (none : Option Addr) = some ad → ad.block ≠ g) := by
        show ∀ ad, _
        intro ad e
        cases e
      have hAN : Hid (∀ ad, (none : Option Addr) = some ad → w.heap.size ≤ ad.block) := by
        show ∀ ad, _
        intro ad e
        cases e
      have HTR := Lib.hid (Rd.nil ((wn.setCell ⟨g, 1, none⟩ (.int .i64 (t : Int))).setCell ⟨g, 2, none⟩ (.int .i64 (tm : Int))) none)

      have hok := ok_any HR.out
      by_cases hf : (nx l (nx l (nx l (0, false) 3) 6) 25).2 = true
      · rw [hf] at hok
        have hd : Hid (decM l = (mnone, 4)) := by show decM l = (mnone, 4); rw [hdec.out]; unfold fin; rw [if_pos hf]
        have HOK := Lib.hid hok
        clear hok hf
        go_wp2_with fail
        refine HOK.out.mono ?_
        rintro e wk ⟨rfl, rfl⟩
        go_wp2
        go_step3
        exact ⟨rfl, ⟨⟨rfl, rfl, rfl⟩, ⟨_, _, _, _, _, _, _, HB.out⟩, hd.out, HF.out⟩⟩
      · have hff : (nx l (nx l (nx l (0, false) 3) 6) 25).2 = false := by simpa using hf
        rw [hff] at hok
        have HOK := Lib.hid hok
        have HE := Lib.hid (rend_any HR.out)
        rw [hff] at HE
        by_cases hq : ends l (nx l (nx l (nx l (0, false) 3) 6) 25).1 false = true
        · rw [hq] at HE
          have hd : Hid (decM l = (⟨k, t, tm, 0, 0, false, []⟩, 0)) := by show decM l = (⟨k, t, tm, 0, 0, false, []⟩, 0); rw [hdec.out]; unfold fin; rw [if_neg hf, hff, if_pos hq]
          clear hok hf hq hff
          go_wp2_with fail
          refine HOK.out.mono ?_
          rintro e wk ⟨rfl, rfl⟩
          go_wp2_with fail
          refine HE.out.mono ?_
          rintro e wm ⟨rfl, FM⟩
          replace HB := Lib.hid (FM.heap HB.out (fun k => k))
          have HTR2 := Lib.hid (HTR.out.no FM)
          have HF2 := Lib.hid (HF.out.trans FM (fun _ k => k.elim))
          go_wp2_with (first | (refine wpList_load_row rfl 34 (.tmp 2) rfl g rfl 34 _ (0, 0) _ HB.out Try.underlying34 rfl (by kernel_rfl) ?_) | (refine wpList_store_row rfl 34 (.tmp 2) (.tmp 58) rfl g _ rfl rfl 34 _ HB.out (by kernel_rfl) rfl (by simp [Value.oneCell']) ?_))
          simp only [Exit.jump]
          refine bodyPost_ret (results_cell2 rfl _ _ _ g _ rfl (run_loadVar_row _ g _ _ _ _ _ (setRow_heap _ g _ _ _ _ HB.out) Try.underlying34 rfl (by kernel_rfl))) rfl ?_
          exact ⟨none, 0, by rw [hd.out]; rfl, by rw [hd.out]; exact HTR2.out.row hAg.out _, hAN.out, HF2.out.row (.inr hgw.out)⟩
        · have hqf : ends l (nx l (nx l (nx l (0, false) 3) 6) 25).1 false = false := by simpa using hq
          rw [hqf] at HE
          have hd : Hid (decM l = (mnone, 2)) := by show decM l = (mnone, 2); rw [hdec.out]; unfold fin; rw [if_neg hf, hff, if_neg hq]
          clear hok hf hq hff hqf
          go_wp2_with fail
          refine HOK.out.mono ?_
          rintro e wk ⟨rfl, rfl⟩
          go_wp2_with fail
          refine HE.out.mono ?_
          rintro e wm ⟨rfl, FM⟩
          replace HB := Lib.hid (FM.heap HB.out (fun k => k))
          replace HF := Lib.hid (HF.out.trans FM (fun _ k => k.elim))
          go_wp2_with (first | (refine wpList_store_row rfl 34 (.tmp 2) (.tmp 57) rfl g #[.int .u8 0, .int .i64 0, .int .i64 0, .int .i64 0, .int .i64 0, .bool false, .slice none 0 0] rfl rfl 34 _ HB.out (by kernel_rfl) rfl (by simp [Value.oneCell']) ?_))
          simp only [Exit.jump]
          refine bodyPost_ret (results_cell2 rfl _ _ _ g _ rfl (run_loadVar_row _ g _ _ _ _ _ (setRow_heap _ g _ _ _ _ HB.out) Try.underlying34 rfl (by kernel_rfl))) rfl ?_
          exact ⟨none, 0, by rw [hd.out]; rfl, by rw [hd.out]; exact Rd.nil _ _, (fun _ e => by cases e), HF.out.row (.inr hgw.out)⟩
  · rintro ⟨tm, df⟩ w' ⟨⟨hdf, hsz, h2⟩, ⟨c0, c1, c2, c3, c4, c5, c6, HB⟩, hd, HF⟩
    simp only at hdf hsz h2
    subst hdf
    have HB := Lib.hid HB
    have hd := Lib.hid hd
    have HF := Lib.hid HF
    go_wp2_with (first | (refine wpList_store_row rfl 34 (.tmp 2) (.tmp 59) rfl g #[.int .u8 0, .int .i64 0, .int .i64 0, .int .i64 0, .int .i64 0, .bool false, .slice none 0 0] (eval_set_ne (by decide) h2) (eval_set_eq (by rw [hsz]; decide)) 34 _ HB.out (by kernel_rfl) rfl (by simp [Value.oneCell']) ?_))

    simp only [Exit.jump]
    refine bodyPost_ret (results_cell2 rfl _ _ _ g _ (by simp [h2]) (run_loadVar_row _ g _ _ _ _ _ (setRow_heap _ g _ _ _ _ HB.out) Try.underlying34 rfl (by kernel_rfl))) rfl ?_
    exact ⟨none, 0, by rw [hd.out]; simp [hsz]; rfl, by rw [hd.out]; exact Rd.nil _ _, (fun _ e => by cases e), HF.out.row (.inr hgw.out)⟩
end Go.Proofs.Ytngjfebndhmlmaa
