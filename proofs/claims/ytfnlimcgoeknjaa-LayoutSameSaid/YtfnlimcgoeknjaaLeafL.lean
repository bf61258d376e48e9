import Derived.Test.YtfnlimcgoeknjaaLayP
import Derived.Test.YtfnlimcgoeknjaaEncW
import Derived.Test.YtfnlimcgoeknjaaOpenW
import Derived.Test.YtfnlimcgoeknjaaJoin
import Derived.Test.YtfnlimcgoeknjaaCellX
import Derived.Deep.RegionLaw
import Derived.Deep.RegionHeld3
import Derived.Deep.DeepCutAuto
import Derived.Laws.Cover2
namespace Go.Proofs.Ytfnlimcgoeknjaa
open Go.RowKit Go Fl

theorem three {w : World} {g : Nat} {t : TypeId} {c0 c1 c2 : Value} (h : w.heap[g]? = some (.cells #[c0, c1, c2] t (0, 0))) :
    w.cell? ⟨g, 0, none⟩ = some c0 ∧ w.cell? ⟨g, 1, none⟩ = some c1 ∧ w.cell? ⟨g, 2, none⟩ = some c2 ∧
    w.frozen? ⟨g, 0, none⟩ = false ∧ w.frozen? ⟨g, 1, none⟩ = false ∧ w.frozen? ⟨g, 2, none⟩ = false := by
  refine ⟨?_, ?_, ?_, blk_free h 0, blk_free h 1, blk_free h 2⟩ <;> (rw [blk_cell h]; rfl)

theorem coordinate_any {w : World} {r : Nat} {B : Option Addr} {d : Nat} {l : List UInt8} {s : Pl} (h : RdAt w r B d l s) :
    Calls Try.prog 32 #[.pointer (some ⟨r, 0, none⟩)] w fun e w' => e = .returned (.float .f64 (F (sx (gt l s 32)))) ∧ RdAt w' r B d l (nx l s 32) ∧ Fr (RS r) w w' := by
  have HG := Lib.hid (get_at h 32 32 rfl)
  have hlt := gt_lt l s 32
  obtain ⟨n, hn⟩ : ∃ n, gt l s 32 = n := ⟨_, rfl⟩
  rw [hn] at HG hlt
  rw [hn]
  have i1 := sx_wrap hlt
  have i2 := nearest_F (sx n) (sx_abs hlt)
  clear h hn hlt
  go_enter Try.func32, Try.ntmps32
  go_wp2_with fail
  refine HG.out.mono ?_
  rintro e w1 ⟨rfl, R1, F1⟩
  go_wp2
  go_ret
  exact ⟨rfl, R1, F1⟩
theorem tiny_any {w : World} {r : Nat} {B : Option Addr} {d : Nat} {l : List UInt8} {s : Pl} (h : RdAt w r B d l s) :
    Calls Try.prog 36 #[.pointer (some ⟨r, 0, none⟩)] w fun e w' => e = .returned (.int .i64 (gt l s 8 : Int)) ∧ RdAt w' r B d l (nx l s 8) ∧ Fr (RS r) w w' := by
  have HG := Lib.hid (get_at h 8 8 rfl)
  have hlt := gt_lt l s 8
  obtain ⟨n, hn⟩ : ∃ n, gt l s 8 = n := ⟨_, rfl⟩
  rw [hn] at HG hlt
  rw [hn]
  have i1 : IntKind.i64.wrap (n : Int) = (n : Int) := by rw [IntKind.wrap_i64]; omega
  clear h hn hlt
  go_enter Try.func36, Try.ntmps36
  go_wp2_with fail
  refine HG.out.mono ?_
  rintro e w1 ⟨rfl, R1, F1⟩
  go_wp2
  go_ret
  exact ⟨rfl, R1, F1⟩
theorem ticks_any {w : World} {r : Nat} {B : Option Addr} {d : Nat} {l : List UInt8} {s : Pl} (h : RdAt w r B d l s) :
    Calls Try.prog 40 #[.pointer (some ⟨r, 0, none⟩)] w fun e w' => e = .returned (.int .i64 (gt l s 16 : Int)) ∧ RdAt w' r B d l (nx l s 16) ∧ Fr (RS r) w w' := by
  have HG := Lib.hid (get_at h 16 16 rfl)
  have hlt := gt_lt l s 16
  obtain ⟨n, hn⟩ : ∃ n, gt l s 16 = n := ⟨_, rfl⟩
  rw [hn] at HG hlt
  rw [hn]
  have i1 : IntKind.i64.wrap (n : Int) = (n : Int) := by rw [IntKind.wrap_i64]; omega
  clear h hn hlt
  go_enter Try.func40, Try.ntmps40
  go_wp2_with fail
  refine HG.out.mono ?_
  rintro e w1 ⟨rfl, R1, F1⟩
  go_wp2
  go_ret
  exact ⟨rfl, R1, F1⟩

/-- The captured variable that holds the reader. -/
def Cap (w : World) (c r : Nat) : Prop := w.cell? ⟨c, 0, none⟩ = some (.pointer (some ⟨r, 0, none⟩)) ∧ c ≠ r
theorem Cap.rs {w w1 : World} {c r : Nat} (h : Cap w c r) (f : Fr (RS r) w w1) : Cap w1 c r := ⟨f.cell h.1 h.2, h.2⟩
theorem Cap.no {w w1 : World} {c r : Nat} (h : Cap w c r) (f : Fr No w w1) : Cap w1 c r := ⟨f.cell h.1 (fun k => k), h.2⟩

theorem dec1_any {w : World} {c r : Nat} {B : Option Addr} {d : Nat} {l : List UInt8} {s : Pl} (h : RdAt w r B d l s) (hc : Cap w c r) :
    Calls Try.prog 31 #[.pointer (some ⟨c, 0, none⟩)] w fun e w' => e = .returned (cxc (cxV l s)) ∧ RdAt w' r B d l (cxN l s) ∧ Fr (RS r) w w' := by
  have HG := Lib.hid (coordinate_any h)
  have HC := Lib.hid hc
  have c0 := hc.1
  unfold cxc cxV cxN
  obtain ⟨x, hx⟩ : ∃ x, sx (gt l s 32) = x := ⟨_, rfl⟩
  obtain ⟨y, hy⟩ : ∃ y, sx (gt l (nx l s 32) 32) = y := ⟨_, rfl⟩
  have HY := Lib.hid hy
  rw [hx] at HG
  rw [hx, hy]
  clear h hx hy hc
  go_enter Try.func31, Try.ntmps31
  go_wp2_with fail
  refine HG.out.mono ?_
  rintro e w1 ⟨rfl, R1, F1⟩
  have HG2 := Lib.hid (coordinate_any R1)
  rw [HY.out] at HG2
  have c1 := (HC.out.rs F1).1
  have HF1 := Lib.hid F1
  clear R1 F1 HG c0
  go_wp2_with fail
  refine HG2.out.mono ?_
  rintro e w2 ⟨rfl, R2, F2⟩
  have HF2 := Lib.hid (HF1.out.trans F2 (fun _ k => .inl k))
  clear F2 c1
  go_wp2
  go_ret
  exact ⟨rfl, R2, HF2.out⟩
theorem decI_any {w : World} {c r : Nat} {B : Option Addr} {d : Nat} {l : List UInt8} {s : Pl} (h : RdAt w r B d l s) (hc : Cap w c r) :
    Calls Try.prog 72 #[.pointer (some ⟨c, 0, none⟩)] w fun e w' => e = .returned (.int .i64 (tnV l s : Int)) ∧ RdAt w' r B d l (tnN l s) ∧ Fr (RS r) w w' := by
  have HG := Lib.hid (tiny_any h)
  have c0 := hc.1
  unfold tnV tnN
  obtain ⟨x, hx⟩ : ∃ x, gt l s 8 = x := ⟨_, rfl⟩
  rw [hx] at HG
  rw [hx]
  clear h hx hc
  go_enter Try.func72, Try.ntmps72
  go_wp2_with fail
  refine HG.out.mono ?_
  rintro e w1 ⟨rfl, R1, F1⟩
  clear c0
  go_wp2
  go_ret
  exact ⟨rfl, R1, F1⟩

set_option maxRecDepth 20000 in
set_option maxHeartbeats 4000000 in
theorem dec2_any {w : World} {c r : Nat} {B : Option Addr} {d : Nat} {l : List UInt8} {s : Pl} (h : RdAt w r B d l s) (hc : Cap w c r) :
    Calls Try.prog 34 #[.pointer (some ⟨c, 0, none⟩)] w fun e w' => e = .returned (.agg (sec (seV l s)).toArray) ∧ RdAt w' r B d l (seN l s) ∧ Fr (RS r) w w' := by
  have F0 := (Fr.refl No w).alloc (.cells #[.int .i64 0, .int .i64 0, .int .i64 0] 48)
  have B0 : (w.alloc (.cells #[.int .i64 0, .int .i64 0, .int .i64 0] 48)).heap[w.heap.size]? = some (.cells #[.int .i64 0, .int .i64 0, .int .i64 0] 48 (0, 0)) := blk_new _ _
  have R0 := h.fr F0 (fun k => k) (fun _ _ k => k)
  have C0 := hc.no F0
  have hrl : r < w.heap.size := blk_lt h.blk
  obtain ⟨g, hg⟩ : ∃ g, w.heap.size = g := ⟨_, rfl⟩
  rw [hg] at B0 hrl
  have hgr : ¬ RS r g := fun e => by have e2 : g = r := e; omega
  have hgw : w.heap.size ≤ g := by omega
  obtain ⟨w0, hw0⟩ : ∃ w0, w.alloc (.cells #[.int .i64 0, .int .i64 0, .int .i64 0] 48) = w0 := ⟨_, rfl⟩
  rw [hw0] at F0 B0 R0 C0
  have hBg : Hid (∀ ad, B = some ad → ¬ ad.block = g) := by
    show ∀ ad, _
    intro ad e e2
    have := Rr.lt h ad e
    omega
  have hcg : c ≠ g := fun e => by have := World.block_lt_of_cell? w _ hc.1; have e2 : c < w.heap.size := this; omega
  have hwr : w0.heap.size ≤ w0.heap.size := Nat.le_refl _
  have KC : Hid (∀ W, Fr (RS r) w0 W → W.cell? ⟨c, 0, none⟩ = some (.pointer (some ⟨r, 0, none⟩))) := fun W hW => (C0.rs hW).1
  have KB : Hid (∀ W, Fr (RS r) w0 W → W.heap[g]? = some (.cells #[.int .i64 0, .int .i64 0, .int .i64 0] 48 (0, 0))) := fun W hW => hW.heap B0 hgr
  have KS : Hid (∀ (W : World) (x y z : Value), Fr (RS r) w0 W → (((W.setCell ⟨g, 0, none⟩ x).setCell ⟨g, 1, none⟩ y).setCell ⟨g, 2, none⟩ z).cell? ⟨c, 0, none⟩ = some (.pointer (some ⟨r, 0, none⟩))) := by
    show ∀ W, _
    intro W x y z hW
    refine Fr.cell (S := fun k => k = g) (w := W) ((((Fr.refl (fun k => k = g) W).setCell (p := ⟨g, 0, none⟩) (.inl rfl) x).setCell (p := ⟨g, 1, none⟩) (.inl rfl) y).setCell (p := ⟨g, 2, none⟩) (.inl rfl) z) (KC.out W hW) hcg
  have TN : Hid (∀ (W : World) (s : Pl), RdAt W r B d l s → Fr (RS r) w0 W → Calls Try.prog 36 #[.pointer (some ⟨r, 0, none⟩)] W fun e w' => e = .returned (.int .i64 (gt l s 8 : Int)) ∧ RdAt w' r B d l (nx l s 8) ∧ Fr (RS r) w0 w') := by
    show ∀ W, _
    intro W s hR hF
    exact (tiny_any hR).mono fun _ _ ⟨h1, h2, h3⟩ => ⟨h1, h2, hF.trans h3 (fun _ k => .inl k)⟩
  have GN : Hid (∀ (W : World) (s : Pl), RdAt W r B d l s → Fr (RS r) w0 W → Calls Try.prog 35 #[.pointer (some ⟨r, 0, none⟩), .int .i64 16] W fun e w' => e = .returned (.int .u64 (gt l s 16 : Int)) ∧ RdAt w' r B d l (nx l s 16) ∧ Fr (RS r) w0 w') := by
    show ∀ W, _
    intro W s hR hF
    exact (get_at hR 16 16 rfl).mono fun _ _ ⟨h1, h2, h3⟩ => ⟨h1, h2, hF.trans h3 (fun _ k => .inl k)⟩
  have xlt := gt_lt l s 16
  unfold seN
  obtain ⟨v, hv⟩ : ∃ v, seV l s = v := ⟨_, rfl⟩
  rw [hv]
  unfold seV at hv
  have i1 : IntKind.i64.wrap (gt l s 16 : Int) = (gt l s 16 : Int) := by rw [IntKind.wrap_i64]; omega
  have HF0 := Lib.hid F0
  have HV := Lib.hid hv
  have HGW := Lib.hid hgw
  have HGR := Lib.hid hgr
  have RD := R0.fr ((Fr.refl No w0).drew) (fun k => k) (fun _ _ k => k)
  have FD := (Fr.refl (RS r) w0).drew
  have c0 := KC.out w0 (Fr.refl _ _)
  clear hv h hc R0 B0 C0 F0 hwr hgw xlt hgr
  go_enter Try.func34, Try.ntmps34
  go_upto_region 1 with (fail)
  go_region_held3 (fun W => W.cell? ⟨c, 0, none⟩ = some (.pointer (some ⟨r, 0, none⟩)))
    (first | exact KC.out _ (by assumption) | exact KS.out _ _ _ _ (by assumption))
    (first
      | (go_at_call 35; with_reducible refine (GN.out _ _ (by assumption) (by assumption)).mono ?_; rintro e wa ⟨rfl, Ra, Fa⟩)
      | (go_at_call 36; with_reducible refine (TN.out _ _ (by assumption) (by assumption)).mono ?_; rintro e wa ⟨rfl, Ra, Fa⟩; (have Bz := three (KB.out _ Fa)); obtain ⟨z0, z1, z2, y0, y1, y2⟩ := Bz))
  all_goals
    go_wp2_with fail
    have hb := KB.out _ Fa
    have f3 : Fr (fun k => k = g) _ _ := ((Fr.refl (fun k => k = g) wa).setCell (p := ⟨g, 0, none⟩) (.inl rfl) (.int .i64 (gt l s 16 : Int))).setCell (p := ⟨g, 1, none⟩) (.inl rfl) (.int .i64 (gt l (nx l s 16) 8 : Int)) |>.setCell (p := ⟨g, 2, none⟩) (.inl rfl) (.int .i64 (gt l (nx l (nx l s 16) 8) 8 : Int))
    have b3 := blk_set (blk_set (blk_set hb 0 (.int .i64 (gt l s 16 : Int))) 1 (.int .i64 (gt l (nx l s 16) 8 : Int))) 2 (.int .i64 (gt l (nx l (nx l s 16) 8) 8 : Int))
    refine bodyPost_ret (results_cell1 rfl _ _ _ g _ rfl (run_loadVar_row _ g _ _ _ _ _ b3 Try.underlying48 rfl (by kernel_rfl))) rfl ?_
    refine ⟨?_, ?_, ?_⟩
    · rw [← HV.out]; rfl
    · exact Ra.fr f3 (fun e => HGR.out e.symm) (fun ad e => hBg.out ad e)
    · exact ((HF0.out.no (S := RS r)).trans Fa (fun i hi => .inl hi)).trans f3 (fun i hi => .inr (by rw [show i = g from hi]; exact HGW.out))
set_option maxRecDepth 20000 in
set_option maxHeartbeats 4000000 in
theorem dec3_any {w : World} {c r : Nat} {B : Option Addr} {d : Nat} {l : List UInt8} {s : Pl} (h : RdAt w r B d l s) (hc : Cap w c r) :
    Calls Try.prog 39 #[.pointer (some ⟨c, 0, none⟩)] w fun e w' => e = .returned (.agg (poc (poV l s)).toArray) ∧ RdAt w' r B d l (poN l s) ∧ Fr (RS r) w w' := by
  have F0 := (Fr.refl No w).alloc (.cells #[.int .i64 0, .int .i64 0, .int .i64 0, .int .i64 0] 51)
  have B0 : (w.alloc (.cells #[.int .i64 0, .int .i64 0, .int .i64 0, .int .i64 0] 51)).heap[w.heap.size]? = some (.cells #[.int .i64 0, .int .i64 0, .int .i64 0, .int .i64 0] 51 (0, 0)) := blk_new _ _
  have R0 := h.fr F0 (fun k => k) (fun _ _ k => k)
  have C0 := hc.no F0
  have hrl : r < w.heap.size := blk_lt h.blk
  obtain ⟨g, hg⟩ : ∃ g, w.heap.size = g := ⟨_, rfl⟩
  rw [hg] at B0 hrl
  have hgr : ¬ RS r g := fun e => by have e2 : g = r := e; omega
  have hgw : w.heap.size ≤ g := by omega
  obtain ⟨w0, hw0⟩ : ∃ w0, w.alloc (.cells #[.int .i64 0, .int .i64 0, .int .i64 0, .int .i64 0] 51) = w0 := ⟨_, rfl⟩
  rw [hw0] at F0 B0 R0 C0
  have hBg : Hid (∀ ad, B = some ad → ¬ ad.block = g) := by
    show ∀ ad, _
    intro ad e e2
    have := Rr.lt h ad e
    omega
  have hcg : c ≠ g := fun e => by have := World.block_lt_of_cell? w _ hc.1; have e2 : c < w.heap.size := this; omega
  have hwr : w0.heap.size ≤ w0.heap.size := Nat.le_refl _
  have KC : Hid (∀ W, Fr (RS r) w0 W → W.cell? ⟨c, 0, none⟩ = some (.pointer (some ⟨r, 0, none⟩))) := fun W hW => (C0.rs hW).1
  have KB : Hid (∀ W, Fr (RS r) w0 W → W.heap[g]? = some (.cells #[.int .i64 0, .int .i64 0, .int .i64 0, .int .i64 0] 51 (0, 0))) := fun W hW => hW.heap B0 hgr
  have KS : Hid (∀ (W : World) (x y z u : Value), Fr (RS r) w0 W → ((((W.setCell ⟨g, 0, none⟩ x).setCell ⟨g, 1, none⟩ y).setCell ⟨g, 2, none⟩ z).setCell ⟨g, 3, none⟩ u).cell? ⟨c, 0, none⟩ = some (.pointer (some ⟨r, 0, none⟩))) := by
    show ∀ W, _
    intro W x y z u hW
    refine Fr.cell (S := fun k => k = g) (w := W) (((((Fr.refl (fun k => k = g) W).setCell (p := ⟨g, 0, none⟩) (.inl rfl) x).setCell (p := ⟨g, 1, none⟩) (.inl rfl) y).setCell (p := ⟨g, 2, none⟩) (.inl rfl) z).setCell (p := ⟨g, 3, none⟩) (.inl rfl) u) (KC.out W hW) hcg
  have TN : Hid (∀ (W : World) (s : Pl), RdAt W r B d l s → Fr (RS r) w0 W → Calls Try.prog 36 #[.pointer (some ⟨r, 0, none⟩)] W fun e w' => e = .returned (.int .i64 (gt l s 8 : Int)) ∧ RdAt w' r B d l (nx l s 8) ∧ Fr (RS r) w0 w') := by
    show ∀ W, _
    intro W s hR hF
    exact (tiny_any hR).mono fun _ _ ⟨h1, h2, h3⟩ => ⟨h1, h2, hF.trans h3 (fun _ k => .inl k)⟩
  unfold poN
  obtain ⟨v, hv⟩ : ∃ v, poV l s = v := ⟨_, rfl⟩
  rw [hv]
  unfold poV at hv
  have HF0 := Lib.hid F0
  have HV := Lib.hid hv
  have HGW := Lib.hid hgw
  have HGR := Lib.hid hgr
  have RD := R0.fr ((Fr.refl No w0).drew) (fun k => k) (fun _ _ k => k)
  have FD := (Fr.refl (RS r) w0).drew
  have c0 := KC.out w0 (Fr.refl _ _)
  clear hv h hc R0 B0 C0 F0 hwr hgw hgr
  go_enter Try.func39, Try.ntmps39
  go_upto_region 1 with (fail)
  go_region_held3 (fun W => W.cell? ⟨c, 0, none⟩ = some (.pointer (some ⟨r, 0, none⟩)))
    (first | exact KC.out _ (by assumption) | exact KS.out _ _ _ _ _ (by assumption))
    (first
      | (go_at_call 36; with_reducible refine (TN.out _ _ (by assumption) (by assumption)).mono ?_; rintro e wa ⟨rfl, Ra, Fa⟩; (have Bz := four (KB.out _ Fa)); obtain ⟨z0, z1, z2, z3, y0, y1, y2, y3⟩ := Bz))
  all_goals
    go_wp2_with fail
    have hb := KB.out _ Fa
    have f3 : Fr (fun k => k = g) _ _ := ((((Fr.refl (fun k => k = g) wa).setCell (p := ⟨g, 0, none⟩) (.inl rfl) (.int .i64 (gt l s 8 : Int))).setCell (p := ⟨g, 1, none⟩) (.inl rfl) (.int .i64 (gt l (nx l s 8) 8 : Int))).setCell (p := ⟨g, 2, none⟩) (.inl rfl) (.int .i64 (gt l (nx l (nx l s 8) 8) 8 : Int))).setCell (p := ⟨g, 3, none⟩) (.inl rfl) (.int .i64 (gt l (nx l (nx l (nx l s 8) 8) 8) 8 : Int))
    have b3 := blk_set (blk_set (blk_set (blk_set hb 0 (.int .i64 (gt l s 8 : Int))) 1 (.int .i64 (gt l (nx l s 8) 8 : Int))) 2 (.int .i64 (gt l (nx l (nx l s 8) 8) 8 : Int))) 3 (.int .i64 (gt l (nx l (nx l (nx l s 8) 8) 8) 8 : Int))
    refine bodyPost_ret (results_cell1 rfl _ _ _ g _ rfl (run_loadVar_row _ g _ _ _ _ _ b3 Try.underlying51 rfl (by kernel_rfl))) rfl ?_
    refine ⟨?_, ?_, ?_⟩
    · rw [← HV.out]; rfl
    · exact Ra.fr f3 (fun e => HGR.out e.symm) (fun ad e => hBg.out ad e)
    · exact ((HF0.out.no (S := RS r)).trans Fa (fun i hi => .inl hi)).trans f3 (fun i hi => .inr (by rw [show i = g from hi]; exact HGW.out))
end Go.Proofs.Ytfnlimcgoeknjaa
