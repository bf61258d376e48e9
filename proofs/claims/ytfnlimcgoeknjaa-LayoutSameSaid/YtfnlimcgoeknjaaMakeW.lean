import Derived.Test.YtfnlimcgoeknjaaMakeL
import Derived.Deep.CutBlock
import Derived.Test.YtfnlimcgoeknjaaHeldR
import Derived.IntWalk
namespace Go.Proofs.Ytfnlimcgoeknjaa
open Go.RowKit Go Fl

/-- No routes. -/
def Nil4 (C : Array Value) : Prop := C[4]? = some (.slice none 0 0)
def SN (b : Nat) : Nat → Prop := fun q => b ≤ q
def SB (g b : Nat) : Nat → Prop := fun q => q = g ∨ b ≤ q

set_option maxRecDepth 20000 in
set_option maxHeartbeats 8000000 in
theorem rmake_own {f l s m wt c st j cc : Nat} {A : Option Addr} {R : BS} {w : World} (hb : f < 256 ∧ l < 256 ∧ s < 256 ∧ m < 65536 ∧ wt < 65536 ∧ c < 256 ∧ st < 256 ∧ j < 256) :
    Calls Try.prog 27 #[.agg (dcs f l s m wt c st j A R.length cc)] w fun e w' => ∃ C, e = .returned (.agg C) ∧ LayW w.heap.size w' (mkL f l s m wt c st j []) C ∧ Fr No w w' ∧ Nil4 C ∧ OwnN w.heap.size w' (mkL f l s m wt c st j []) C := by
  unfold dcs
  obtain ⟨W1, hW1⟩ : ∃ W, w.alloc (.cells #[.int .u8 (f : Int), .int .u8 (l : Int), .int .u8 (s : Int), .int .u16 (m : Int), .int .u16 (wt : Int), .int .u8 (c : Int), .int .u8 (st : Int), .int .u8 (j : Int), .slice A R.length cc] 30) = W := ⟨_, rfl⟩
  have f1 : Fr No w W1 := by rw [← hW1]; exact (Fr.refl No w).alloc _
  have b1 : W1.heap[w.heap.size]? = some (.cells #[.int .u8 (f : Int), .int .u8 (l : Int), .int .u8 (s : Int), .int .u16 (m : Int), .int .u16 (wt : Int), .int .u8 (c : Int), .int .u8 (st : Int), .int .u8 (j : Int), .slice A R.length cc] 30 (0, 0)) := by rw [← hW1]; exact blk_new _ _
  obtain ⟨h, hh⟩ : ∃ h, w.heap.size = h := ⟨_, rfl⟩
  rw [hh] at b1
  have HF := Lib.hid f1
  have HB := Lib.hid b1
  obtain ⟨W2, hW2⟩ : ∃ W, W1.alloc (.cells #[.slice none 0 0, .slice none 0 0, .slice none 0 0, .slice none 0 0, .slice none 0 0, .int .i64 0, .int .i64 0, .int .i64 0, .int .i64 0, .int .i64 0] 38) = W := ⟨_, rfl⟩
  have f2 : Fr No W1 W2 := by rw [← hW2]; exact (Fr.refl No W1).alloc _
  obtain ⟨W3, hW3⟩ : ∃ W, W2.alloc (.cells #[.slice none 0 0, .slice none 0 0, .slice none 0 0, .slice none 0 0, .slice none 0 0, .int .i64 0, .int .i64 0, .int .i64 0, .int .i64 0, .int .i64 0] 38) = W := ⟨_, rfl⟩
  have f3 : Fr No W2 W3 := by rw [← hW3]; exact (Fr.refl No W2).alloc _
  have b3 : W3.heap[W2.heap.size]? = some (.cells #[.slice none 0 0, .slice none 0 0, .slice none 0 0, .slice none 0 0, .slice none 0 0, .int .i64 0, .int .i64 0, .int .i64 0, .int .i64 0, .int .i64 0] 38 (0, 0)) := by rw [← hW3]; exact blk_new _ _
  have hs1 : h < W2.heap.size := by rw [← hh]; have h1 := f2.size; have h2 : w.heap.size + 1 ≤ W1.heap.size := (by rw [← hW1]; exact Nat.le_of_eq (Array.size_push _).symm); omega
  obtain ⟨h2, hh2⟩ : ∃ h2, W1.heap.size = h2 := ⟨_, rfl⟩
  obtain ⟨g, hg⟩ : ∃ g, W2.heap.size = g := ⟨_, rfl⟩
  rw [hg] at b3 hs1
  have HB3 := Lib.hid b3
  have b2r : W2.heap[W1.heap.size]? = some (.cells #[.slice none 0 0, .slice none 0 0, .slice none 0 0, .slice none 0 0, .slice none 0 0, .int .i64 0, .int .i64 0, .int .i64 0, .int .i64 0, .int .i64 0] 38 (0, 0)) := by rw [← hW2]; exact blk_new _ _
  have hs2 : W1.heap.size < g := by rw [← hg]; exact blk_lt b2r
  rw [hh2] at b2r hs2
  have HBR := Lib.hid (f3.heap b2r (fun k => k))
  have hs3 : h < h2 := by rw [← hh2]; have h3 : w.heap.size + 1 ≤ W1.heap.size := (by rw [← hW1]; exact Nat.le_of_eq (Array.size_push _).symm); omega
  have HF3 := Lib.hid ((f1.trans f2 (fun _ k => k.elim)).trans f3 (fun _ k => k.elim))
  have b2 := f2.heap b1 (fun k => k)
  obtain ⟨k0, k1, k2, k3, k4, k5, k6, k7, k8⟩ := nines b2
  have HB1 := Lib.hid (f3.heap b2 (fun k => k))
  obtain ⟨j0, j1, j2, j3, j4, j5, j6, j7, j8⟩ := nines HB1.out
  clear f1 b1 f2 f3 b3 b2 b2r k0 k2 k3 k4 k5 k6 k7 k8 j1 j8
  obtain ⟨mu, hmu, hun⟩ := unit_has l
  have hu0 : 10 * (1 + (l : Int) % 20) = ((10 * (1 + mu) : Nat) : Int) := by unfold unitN at hun; omega
  have hfl : floatOfInt .f64 ((10 * (1 + mu) : Nat) : Int) = F ((10 * (1 + mu) : Nat) : Int) := nearest_F _ (by omega)
  have hcm : ∀ k, k < 7 → ∀ w, (binOp .mul 45 (.complex .f64 (F ((k : Nat) : Int)) 0) (.complex .f64 (F ((10 * (1 + mu) : Nat) : Int)) 0)).run Try.prog w = .ok (.complex .f64 (F ((k * (10 * (1 + mu)) : Nat) : Int)) 0) w := fun k hk w => run_complex_mul w _ _ _ _ _ _ _ (cm_all k hk mu hmu)
  have hca : ∀ k, k < 5 → ∀ w, (binOp .add 45 (.complex .f64 (F ((k * (10 * (1 + mu)) : Nat) : Int)) 0) (.complex .f64 0 (F ((10 * (1 + mu) : Nat) : Int)))).run Try.prog w = .ok (.complex .f64 (F ((k * (10 * (1 + mu)) : Nat) : Int)) (F ((10 * (1 + mu) : Nat) : Int))) w := fun k hk w => run_complex_sum w .add (.inl rfl) _ _ _ _ _ _ _ _ (ca_all k hk mu hmu)
  have hcs : ∀ k, k < 5 → ∀ w, (binOp .sub 45 (.complex .f64 (F ((k * (10 * (1 + mu)) : Nat) : Int)) 0) (.complex .f64 0 (F ((10 * (1 + mu) : Nat) : Int)))).run Try.prog w = .ok (.complex .f64 (F ((k * (10 * (1 + mu)) : Nat) : Int)) (F (-((10 * (1 + mu) : Nat) : Int)))) w := fun k hk w => run_complex_sum w .sub (.inr rfl) _ _ _ _ _ _ _ _ (cs_all k hk mu hmu)
  have hcq : ∀ w, (binOp .quo 45 (.complex .f64 0 (F ((10 * (1 + mu) : Nat) : Int))) (.complex .f64 4611686018427387904 0)).run Try.prog w = .ok (.complex .f64 0 (F ((5 * (1 + mu) : Nat) : Int))) w := fun w => (run_complex_quo w _ _ _ _ _ _ _ (cq_all mu hmu)).1
  have hch : ∀ w, (binOp .add 45 (.complex .f64 (F ((3 * (10 * (1 + mu)) : Nat) : Int)) 0) (.complex .f64 0 (F ((5 * (1 + mu) : Nat) : Int)))).run Try.prog w = .ok (.complex .f64 (F ((3 * (10 * (1 + mu)) : Nat) : Int)) (F ((5 * (1 + mu) : Nat) : Int))) w := fun w => run_complex_sum w .add (.inl rfl) _ _ _ _ _ _ _ _ (cah_all mu hmu)
  have hcg : ∀ w, (binOp .sub 45 (.complex .f64 (F ((3 * (10 * (1 + mu)) : Nat) : Int)) 0) (.complex .f64 0 (F ((5 * (1 + mu) : Nat) : Int)))).run Try.prog w = .ok (.complex .f64 (F ((3 * (10 * (1 + mu)) : Nat) : Int)) (F (-((5 * (1 + mu) : Nat) : Int)))) w := fun w => run_complex_sum w .sub (.inr rfl) _ _ _ _ _ _ _ _ (csh_all mu hmu)
  have hu5 : unitN l / 2 = 5 * (1 + mu) := by rw [hun]; omega
  obtain ⟨u, hu⟩ : ∃ u, 10 * (1 + mu) = u := ⟨_, rfl⟩
  obtain ⟨v, hv⟩ : ∃ v, 5 * (1 + mu) = v := ⟨_, rfl⟩
  rw [hu] at hu0 hfl hun
  rw [hv] at hcq hch hcg hu5
  simp only [hu] at hcm hca hcs hcq hch hcg
  have m2 := hcm 2 (by omega)
  have m3 := hcm 3 (by omega)
  have m4 := hcm 4 (by omega)
  have m5 := hcm 5 (by omega)
  have m6 := hcm 6 (by omega)
  have a2 := hca 2 (by omega)
  have a3 := hca 3 (by omega)
  have a4 := hca 4 (by omega)
  have s2 := hcs 2 (by omega)
  have s3 := hcs 3 (by omega)
  have s4 := hcs 4 (by omega)
  rw [show F ((2 : Nat) : Int) = 4611686018427387904 from by decide +kernel] at m2
  rw [show F ((3 : Nat) : Int) = 4613937818241073152 from by decide +kernel] at m3
  rw [show F ((4 : Nat) : Int) = 4616189618054758400 from by decide +kernel] at m4
  rw [show F ((5 : Nat) : Int) = 4617315517961601024 from by decide +kernel] at m5
  rw [show F ((6 : Nat) : Int) = 4618441417868443648 from by decide +kernel] at m6
  clear hcm hca hcs hu hv
  obtain ⟨x1, hx1⟩ : ∃ x, F (u : Int) = x := ⟨_, rfl⟩
  obtain ⟨y1, hy1⟩ : ∃ x, F (-(u : Int)) = x := ⟨_, rfl⟩
  obtain ⟨x2, hx2⟩ : ∃ x, F ((2 * u : Nat) : Int) = x := ⟨_, rfl⟩
  obtain ⟨x3, hx3⟩ : ∃ x, F ((3 * u : Nat) : Int) = x := ⟨_, rfl⟩
  obtain ⟨x4, hx4⟩ : ∃ x, F ((4 * u : Nat) : Int) = x := ⟨_, rfl⟩
  obtain ⟨x5, hx5⟩ : ∃ x, F ((5 * u : Nat) : Int) = x := ⟨_, rfl⟩
  obtain ⟨x6, hx6⟩ : ∃ x, F ((6 * u : Nat) : Int) = x := ⟨_, rfl⟩
  obtain ⟨xv, hxv⟩ : ∃ x, F (v : Int) = x := ⟨_, rfl⟩
  obtain ⟨yv, hyv⟩ : ∃ x, F (-(v : Int)) = x := ⟨_, rfl⟩
  rw [hx1] at hfl hcq m2 m3 m4 m5 m6 a2 a3 a4 s2 s3 s4
  rw [hx2] at m2 a2 s2
  rw [hx3] at m3 a3 s3 hch hcg
  rw [hx4] at m4 a4 s4
  rw [hx5] at m5
  rw [hx6] at m6
  rw [hy1] at s2 s3 s4
  rw [hxv] at hcq hch hcg
  rw [hyv] at hcg
  have X1 := Lib.hid hx1
  have X2 := Lib.hid hx2
  have X3 := Lib.hid hx3
  have X4 := Lib.hid hx4
  have X5 := Lib.hid hx5
  have X6 := Lib.hid hx6
  have XV := Lib.hid hxv
  have Y1 := Lib.hid hy1
  have YV := Lib.hid hyv
  have HUN := Lib.hid hun
  have HU5 := Lib.hid hu5
  clear hx1 hx2 hx3 hx4 hx5 hx6 hxv hy1 hyv hun hu5
  go_enter Try.func27, Try.ntmps27
  go_upto_block 0 with (fail)
  obtain ⟨n0, n1, n2, n3⟩ := ten0' HB3.out
  have z0 := blk_free HB3.out 0
  have z1 := blk_free HB3.out 1
  have z2 := blk_free HB3.out 2
  have z3 := blk_free HB3.out 3
  have gl := blk_lt HB3.out
  have gl1 : g < W3.heap.size + 1 := by omega
  have gl2 : g < W3.heap.size + 1 + 1 := by omega
  have gl3 : ¬ g = W3.heap.size := by omega
  have gl4 : ¬ g = W3.heap.size + 1 := by omega
  have gl5 : ¬ g = W3.heap.size + 1 + 1 := by omega
  have q3 : ∀ v, (W3.setCell ⟨g, 0, none⟩ v).cell? ⟨g, 3, none⟩ = some (.slice none 0 0) := fun v => by rw [blk_cell (blk_set HB3.out 0 v)]; rfl
  have y3 : ∀ v, (W3.setCell ⟨g, 0, none⟩ v).frozen? ⟨g, 3, none⟩ = false := fun v => blk_free (blk_set HB3.out 0 v) 3
  go_cut [7, 27] (fun s7 _ wc => MkCut f u g W3 s7 wc)
  case rest =>
    obtain ⟨Ae, ce, An, cn, Aq, cq, hs7, RE, HAe, BG, RN, RQ, FC, UN, UQ, ON, OQ⟩ := hcut
    have HUN' := Lib.hid UN
    have HUQ := Lib.hid UQ
    have HON0 := Lib.hid ON
    have HOQ := Lib.hid OQ
    have hle := mkEnds_le f
    obtain ⟨n, hn⟩ : ∃ n, (mkEnds f).length = n := ⟨_, rfl⟩
    obtain ⟨nn, hnn⟩ : ∃ n, (mkNodes f u).length = n := ⟨_, rfl⟩
    obtain ⟨nq', hnq⟩ : ∃ n, (mkPoints f).length = n := ⟨_, rfl⟩
    rw [hn] at RE hs7 hle
    rw [hnn] at BG RN
    rw [hnq] at BG RQ
    have hn8 := hle.1
    have HRE := Lib.hid RE
    have HAE := Lib.hid HAe
    have HBG := Lib.hid BG
    have HRN := Lib.hid RN
    have HRQ := Lib.hid RQ
    have HFC := Lib.hid FC
    have HNL := Lib.hid hn
    have HNN := Lib.hid hnn
    have HNQ := Lib.hid hnq
    have gl := blk_lt BG
    have hu2 : u ≤ 200 := by omega
    clear hle hn hnn hnq RE HAe BG RN RQ FC UN UQ ON OQ m2 m3 m4 m5 m6 a2 a3 a4 s2 s3 s4 hcq hch hcg n0 n1 n2 n3 z0 z1 z2 z3 q3 y3 gl1 gl2 gl3 gl4 gl5
    subst hs7
    go_wp2
    go_loopg [11] n (fun gk i wr => ∃ (k : Nat) (v2 : Value), k + gk = n ∧ i = .int .i64 (k : Int) ∧ Hid (OwnK wr 48 3 v2 k ((mkSecs f u k).flatMap sei)) ∧ Hid (New wc v2) ∧ Hid (wr.heap[g]? = some (.cells #[.slice An nn cn, v2, .slice none 0 0, .slice Aq nq' cq, .slice none 0 0, .int .i64 0, .int .i64 0, .int .i64 0, .int .i64 0, .int .i64 0] 38 (0, 0))) ∧ Hid (Fr (SG' g) wc wr))
    case atStart => exact ⟨0, _, by omega, rfl, OwnK.nil _ _ _, (fun k e => by simp [Value.ownBlock] at e), HBG.out, Fr.refl _ _⟩
    case round =>
      obtain ⟨k, v2, hk, rfl, HO, HN, HB, HF⟩ := hrel
      by_cases hkn : k < n
      · obtain ⟨ad, hAd, c0, c1⟩ := ends_at (l := mkEnds f) (by rw [HNL.out]; exact HRE.out.fr HF.out (fun ad e => HAE.out ad e)) (show k < (mkEnds f).length by rw [HNL.out]; exact hkn)
        have hsec := mkSecs_succ f u k (by rw [HNL.out]; exact hkn)
        have hkl : k < (mkEnds f).length := by rw [HNL.out]; exact hkn
        have hlt := (mkEnds_le f).2 _ (List.getElem_mem hkl)
        have hms : mkSec f u k = (((2 * u + k % 3 : Nat) : Int), ((mkEnds f)[k].1 : Int), ((mkEnds f)[k].2 : Int)) := by
          unfold mkSec; simp [List.getD_eq_getElem?_getD, hkl]
        obtain ⟨e1, he1⟩ : ∃ e, (mkEnds f)[k].1 = e := ⟨_, rfl⟩
        obtain ⟨e2, he2⟩ : ∃ e, (mkEnds f)[k].2 = e := ⟨_, rfl⟩
        rw [he1] at c0 hms hlt
        rw [he2] at c1 hms hlt
        rw [hms] at hsec
        have HAD := Lib.hid hAd
        have n1 := (ten0' HB.out).2.1
        have z1 := blk_free HB.out 1
        have glr := blk_lt HB.out
        have glr1 : g < wr.heap.size + 1 := by omega
        have gne : ¬ g = wr.heap.size := by omega
        have ik : (k : Int) < (n : Int) := by omega
        have i0 : (0 : Int) ≤ (k : Int) := by omega
        have hw1 : IntKind.i64.wrap (2 * (u : Int)) = 2 * (u : Int) := IntWalk.i64_in _ (by omega)
        have hw3 : (k : Int).tmod 3 = ((k % 3 : Nat) : Int) := by rw [Int.tmod_eq_emod_of_nonneg (by omega)]; rfl
        have hw2 : IntKind.i64.wrap (2 * (u : Int) + ((k % 3 : Nat) : Int)) = ((2 * u + k % 3 : Nat) : Int) := by rw [show 2 * (u : Int) + ((k % 3 : Nat) : Int) = ((2 * u + k % 3 : Nat) : Int) by push_cast; rfl]; exact IntWalk.i64_in _ (by omega)
        obtain ⟨k3, hk3⟩ : ∃ x, k % 3 = x := ⟨_, rfl⟩
        obtain ⟨ln, hln⟩ : ∃ x : Int, ((2 * u + k % 3 : Nat) : Int) = x := ⟨_, rfl⟩
        rw [hln] at hw2
        rw [hln] at hsec
        rw [hk3] at hw2 hw3
        have HLN := Lib.hid hln
        have HS := Lib.hid hsec
        have HK3 := Lib.hid hk3
        have cell1 : ad.block < wr.heap.size := by have := World.block_lt_of_cell? wr _ c0; rwa [Addr.add_block] at this
        clear hsec hms he1 he2 hkl hlt hln hk3
        subst hAd
        have adlt : ad.block < wc.heap.size := by
          obtain ⟨ad', h1, h2⟩ := HRE.out.2.2 0 (by omega)
          cases h1
          have := World.block_lt_of_cell? wc _ h2
          rwa [Addr.add_block] at this
        have KC : Hid (∀ W, Fr (SN wc.heap.size) wr W → W.cell? ⟨g, 1, none⟩ = some v2 ∧ W.cell? (ad.add (k * 2)) = some (.int .i64 (e1 : Int)) ∧ W.cell? ⟨(ad.add (k * 2)).block, (ad.add (k * 2)).off + 1, none⟩ = some (.int .i64 (e2 : Int))) := by
          show ∀ W, _
          intro W hW
          have hn : ¬ SN wc.heap.size ad.block := by unfold SN; omega
          have hg' : ¬ SN wc.heap.size g := by unfold SN; have := blk_lt HBG.out; omega
          exact ⟨hW.cell n1 hg', hW.cell c0 (by rw [Addr.add_block]; exact hn), hW.cell c1 (by show ¬ SN wc.heap.size (ad.add (k * 2)).block; rw [Addr.add_block]; exact hn)⟩
        have FQ := Fr.refl (SN wc.heap.size) wr
        have FA := FQ.alloc (.cells #[.int .i64 ln, .int .i64 (e1 : Int), .int .i64 (e2 : Int)] 48)
        have HBA := Lib.hid (blk_alloc HB.out (.cells #[.int .i64 ln, .int .i64 (e1 : Int), .int .i64 (e2 : Int)] 48))
        have HFA := Lib.hid (HF.out.alloc (.cells #[.int .i64 ln, .int .i64 (e1 : Int), .int .i64 (e2 : Int)] 48))
        have HOA := Lib.hid (HO.out.alloc (.cells #[.int .i64 ln, .int .i64 (e1 : Int), .int .i64 (e2 : Int)] 48))
        have glc : Hid (g < wc.heap.size) := blk_lt HBG.out
        have FN : ∀ i, v2.ownBlock = some i → SN wc.heap.size i ∨ wr.heap.size ≤ i := fun i hi => .inl (HN.out i hi)
        go_upto_region 31 with (fail)
        refine wp_region_noPanic ?_
        refine heldZ_start (fun W => W.cell? ⟨g, 1, none⟩ = some v2 ∧ W.cell? (ad.add (k * 2)) = some (.int .i64 (e1 : Int)) ∧ W.cell? ⟨(ad.add (k * 2)).block, (ad.add (k * 2)).off + 1, none⟩ = some (.int .i64 (e2 : Int))) 21 (by kernel_rfl) ?_
        have HS0 := KC.out _ FQ.drew
        (refine heldZ_take 0 156 (v := ?_) rfl rfl (by kernel_rfl) (by kernel_rfl) (by kernel_rfl) (by kernel_rfl) (fun _ _ _ h => h) HS0 (by rfl) ?_ ?_; rotate_left; (intro w hSw; (try dsimp only at hSw); go_simp; try with_reducible rfl); simp only [Act.put, List.setIfInBounds_toArray, List.set_cons_zero, List.set_cons_succ])
        (refine heldZ_take 1 157 (v := ?_) rfl rfl (by kernel_rfl) (by kernel_rfl) (by kernel_rfl) (by kernel_rfl) (fun _ _ _ h => h) HS0 (by rfl) ?_ ?_; rotate_left; (intro w hSw; (try dsimp only at hSw); go_simp; try with_reducible rfl); simp only [Act.put, List.setIfInBounds_toArray, List.set_cons_zero, List.set_cons_succ])
        (refine heldZ_take 2 158 (v := ?_) rfl rfl (by kernel_rfl) (by kernel_rfl) (by kernel_rfl) (by kernel_rfl) (fun _ _ _ h => h) HS0 (by rfl) ?_ ?_; rotate_left; (intro w hSw; (try dsimp only at hSw); go_simp; try with_reducible rfl); simp only [Act.put, List.setIfInBounds_toArray, List.set_cons_zero, List.set_cons_succ])
        (refine heldZ_take 3 159 (v := ?_) rfl rfl (by kernel_rfl) (by kernel_rfl) (by kernel_rfl) (by kernel_rfl) (fun _ _ _ h => h) HS0 (by rfl) ?_ ?_; rotate_left; (intro w hSw; (try dsimp only at hSw); go_simp; try with_reducible rfl); simp only [Act.put, List.setIfInBounds_toArray, List.set_cons_zero, List.set_cons_succ])
        (refine heldZ_take 4 160 (v := ?_) rfl rfl (by kernel_rfl) (by kernel_rfl) (by kernel_rfl) (by kernel_rfl) (fun _ _ _ h => h) HS0 (by rfl) ?_ ?_; rotate_left; (intro w hSw; (try dsimp only at hSw); go_simp; try with_reducible rfl); simp only [Act.put, List.setIfInBounds_toArray, List.set_cons_zero, List.set_cons_succ])
        (refine heldZ_take 5 161 (v := ?_) rfl rfl (by kernel_rfl) (by kernel_rfl) (by kernel_rfl) (by kernel_rfl) (fun _ _ _ h => h) HS0 (by rfl) ?_ ?_; rotate_left; (intro w hSw; (try dsimp only at hSw); go_simp; try with_reducible rfl); simp only [Act.put, List.setIfInBounds_toArray, List.set_cons_zero, List.set_cons_succ])
        (refine heldZ_take 6 162 (v := ?_) rfl rfl (by kernel_rfl) (by kernel_rfl) (by kernel_rfl) (by kernel_rfl) (fun _ _ _ h => h) HS0 (by rfl) ?_ ?_; rotate_left; (intro w hSw; (try dsimp only at hSw); go_simp; try with_reducible rfl); simp only [Act.put, List.setIfInBounds_toArray, List.set_cons_zero, List.set_cons_succ])
        (refine heldZ_take 7 163 (v := ?_) rfl rfl (by kernel_rfl) (by kernel_rfl) (by kernel_rfl) (by kernel_rfl) (fun _ _ _ h => h) HS0 (by rfl) ?_ ?_; rotate_left; (intro w hSw; (try dsimp only at hSw); go_simp; try with_reducible rfl); simp only [Act.put, List.setIfInBounds_toArray, List.set_cons_zero, List.set_cons_succ])
        (refine heldZ_take 8 164 (v := ?_) rfl rfl (by kernel_rfl) (by kernel_rfl) (by kernel_rfl) (by kernel_rfl) (fun _ _ _ h => h) HS0 (by rfl) ?_ ?_; rotate_left; (intro w hSw; (try dsimp only at hSw); go_simp; try with_reducible rfl); simp only [Act.put, List.setIfInBounds_toArray, List.set_cons_zero, List.set_cons_succ])
        (refine heldZ_take 9 165 (v := ?_) rfl rfl (by kernel_rfl) (by kernel_rfl) (by kernel_rfl) (by kernel_rfl) (fun _ _ _ h => h) HS0 (by rfl) ?_ ?_; rotate_left; (intro w hSw; (try dsimp only at hSw); go_simp; try with_reducible rfl); simp only [Act.put, List.setIfInBounds_toArray, List.set_cons_zero, List.set_cons_succ])
        (refine heldZ_take 10 166 (v := ?_) rfl rfl (by kernel_rfl) (by kernel_rfl) (by kernel_rfl) (by kernel_rfl) (fun _ _ _ h => h) HS0 (by rfl) ?_ ?_; rotate_left; (intro w hSw; (try dsimp only at hSw); go_simp; try with_reducible rfl); simp only [Act.put, List.setIfInBounds_toArray, List.set_cons_zero, List.set_cons_succ])
        (refine heldZ_take 11 167 (v := ?_) rfl rfl (by kernel_rfl) (by kernel_rfl) (by kernel_rfl) (by kernel_rfl) (fun _ _ _ h => h) HS0 (by rfl) ?_ ?_; rotate_left; (intro w hSw; (try dsimp only at hSw); go_simp; try with_reducible rfl); simp only [Act.put, List.setIfInBounds_toArray, List.set_cons_zero, List.set_cons_succ])
        (refine heldZ_take 12 168 (v := ?_) rfl rfl (by kernel_rfl) (by kernel_rfl) (by kernel_rfl) (by kernel_rfl) (fun _ _ _ h => h) HS0 (by rfl) ?_ ?_; rotate_left; (intro w hSw; (try dsimp only at hSw); go_simp; try with_reducible rfl); simp only [Act.put, List.setIfInBounds_toArray, List.set_cons_zero, List.set_cons_succ])
        (refine heldZ_take 13 169 (v := ?_) rfl rfl (by kernel_rfl) (by kernel_rfl) (by kernel_rfl) (by kernel_rfl) (fun _ _ _ h => h) HS0 (by rfl) ?_ ?_; rotate_left; (intro w hSw; (try dsimp only at hSw); go_simp; try with_reducible rfl); simp only [Act.put, List.setIfInBounds_toArray, List.set_cons_zero, List.set_cons_succ])
        (refine heldZ_take 14 170 (v := ?_) rfl rfl (by kernel_rfl) (by kernel_rfl) (by kernel_rfl) (by kernel_rfl) (fun _ _ _ h => h) HS0 (by rfl) ?_ ?_; rotate_left; (intro w hSw; (try dsimp only at hSw); go_simp; try with_reducible rfl); simp only [Act.put, List.setIfInBounds_toArray, List.set_cons_zero, List.set_cons_succ])
        (refine heldZ_take 15 171 (v := ?_) rfl rfl (by kernel_rfl) (by kernel_rfl) (by kernel_rfl) (by kernel_rfl) (fun _ _ _ h => h) HS0 (by rfl) ?_ ?_; rotate_left; (intro w hSw; (try dsimp only at hSw); go_simp; try with_reducible rfl); simp only [Act.put, List.setIfInBounds_toArray, List.set_cons_zero, List.set_cons_succ])
        (refine heldZ_take 16 172 (v := ?_) rfl rfl (by kernel_rfl) (by kernel_rfl) (by kernel_rfl) (by kernel_rfl) (fun _ _ _ h => h) HS0 (by rfl) ?_ ?_; rotate_left; (intro w hSw; (try dsimp only at hSw); go_simp; try with_reducible rfl); simp only [Act.put, List.setIfInBounds_toArray, List.set_cons_zero, List.set_cons_succ])
        (refine heldZ_take 17 173 (v := ?_) rfl rfl (by kernel_rfl) (by kernel_rfl) (by kernel_rfl) (by kernel_rfl) (fun _ _ _ h => h) HS0 (by rfl) ?_ ?_; rotate_left; (intro w hSw; (try dsimp only at hSw); go_simp; try with_reducible rfl); simp only [Act.put, List.setIfInBounds_toArray, List.set_cons_zero, List.set_cons_succ])
        refine heldZ_step 18 rfl (by kernel_rfl) (fun K hK => ?_)
        go_simp
        have HS1 := KC.out _ FA.drew
        refine hK.out _ _ (fun _ => HS1) ?_
        clear hK K HS0
        try simp only [Act.put, List.setIfInBounds_toArray, List.set_cons_zero, List.set_cons_succ]
        refine heldZ_step 19 rfl (by kernel_rfl) (fun K hK => ?_)
        refine step_own_append_k rfl (.tmp 157) (.tmp 174) 34 48 (.agg #[.int .i64 0, .int .i64 0, .int .i64 0]) 3 24 rfl Try.underlying34 infoS rfl (by decide) (by decide) v2 k ((mkSecs f u k).flatMap sei) [.int .i64 ln, .int .i64 (e1 : Int), .int .i64 (e2 : Int)] wr.heap.size (by rfl) (by rfl) rfl (fun j u' hj => by show (wr.alloc (.cells #[.int .i64 ln, .int .i64 (e1 : Int), .int .i64 (e2 : Int)] 48)).cell? _ = _; rw [blk_cell (blk_new wr _)]; simpa using hj) (by simp [Value.oneCell']) (show OwnK (wr.alloc (.cells #[.int .i64 ln, .int .i64 (e1 : Int), .int .i64 (e2 : Int)] 48)).drew _ _ _ _ _ from HOA.out.fr ((Fr.refl No _).drew) (fun _ _ k => k)) (by omega) ?_
        intro v4 w4 o4 f4 a4 s4
        obtain ⟨A4, c4, hv4⟩ := s4
        subst hv4
        obtain ⟨b4, N4, F4⟩ := after_app (v1 := .slice A4 (k + 1) c4) (W := (wr.alloc (.cells #[.int .i64 ln, .int .i64 (e1 : Int), .int .i64 (e2 : Int)] 48)).drew) (w1 := w4) HBA.out glc.out HN.out HFA.out.drew f4 a4
        have f5 : Fr (SN wc.heap.size) wr w4 := FA.drew.trans f4 FN
        have m1 := (ten0' b4).2.1
        have y1 := blk_free b4 1
        have HS2 := KC.out _ f5
        refine hK.out _ _ (fun _ => HS2) ?_
        clear hK K HS1
        try simp only [Act.put, List.setIfInBounds_toArray, List.set_cons_zero, List.set_cons_succ]
        (refine heldZ_take 20 176 (v := ?_) rfl rfl (by kernel_rfl) (by kernel_rfl) (by kernel_rfl) (by kernel_rfl) (fun _ _ _ h => h) HS2 (by rfl) ?_ ?_; rotate_left; (intro w hSw; (try dsimp only at hSw); go_simp; try with_reducible rfl); simp only [Act.put, List.setIfInBounds_toArray, List.set_cons_zero, List.set_cons_succ])
        refine heldZ_step 21 rfl (by kernel_rfl) (fun K hK => ?_)
        go_simp
        refine hK.out _ _ (fun h => absurd rfl h) ?_
        clear hK K HS2
        refine heldZ_done (by kernel_rfl) (NoPanic.normal ?_)
        all_goals
          have fs : Fr (SG' g) w4 (w4.setCell ⟨g, 1, none⟩ (.slice A4 (k + 1) c4)) := (Fr.refl (SG' g) w4).setCell (p := ⟨g, 1, none⟩) (.inl rfl) (.slice A4 (k + 1) c4)
          have H1 : Hid (OwnK (w4.setCell ⟨g, 1, none⟩ (.slice A4 (k + 1) c4)) 48 3 (.slice A4 (k + 1) c4) (k + 1) ((mkSecs f u (k + 1)).flatMap sei)) := by
            rw [HS.out, List.flatMap_append]
            exact OwnK.fr o4 fs (fun b hb e => by have e2 : b = g := e; have := N4 b hb; have := glc.out; omega)
          have H2 : Hid ((w4.setCell ⟨g, 1, none⟩ (.slice A4 (k + 1) c4)).heap[g]? = _) := blk_set b4 1 (.slice A4 (k + 1) c4)
          have H3 := Lib.hid (F4.trans fs (fun i hi => .inl hi))
          have H4 := Lib.hid N4
          clear o4 f4 a4 b4 N4 F4 fs f5 FA FQ FN HBA HFA HOA m1 y1 HO HB HF HN KC c0 c1
          go_wp2
          go_roundg (n - (k + 1))
          case measure => omega
          case rel => exact ⟨k + 1, _, by omega, by go_num, H1, H4, H2, H3⟩
      · obtain rfl : k = n := by omega
        obtain ⟨As, cs, hvs, hcs, _, RS, US⟩ := RdN.ownU HO.out HN.out
        subst hvs
        obtain ⟨ws, hws⟩ : ∃ ws : World, wr = ws := ⟨_, rfl⟩
        rw [hws] at HO HB HF RS US ⊢
        have HRS0 := Lib.hid RS
        have HUS := Lib.hid US
        have glw : g < ws.heap.size := by exact blk_lt HB.out
        have HGW := Lib.hid glw
        clear hws hcs RS US
        go_wp2
        go_loopg [12] k (fun gk i wr => ∃ (p : Nat) (v3 : Value) (M : IL), p + gk = k ∧ i = .int .i64 (p : Int) ∧ Hid (Parts ws wr v3 M (mkParts j p)) ∧ Hid (wr.heap[g]? = some (.cells #[.slice An nn cn, .slice As k cs, v3, .slice Aq nq' cq, .slice none 0 0, .int .i64 0, .int .i64 0, .int .i64 0, .int .i64 0, .int .i64 0] 38 (0, 0))) ∧ Hid (Fr (SG' g) ws wr))
        case atStart => exact ⟨0, _, [], by omega, rfl, Parts.nil _ _, HB.out, Fr.refl _ _⟩
        case round =>
          obtain ⟨p, v3, M, hp, rfl, HP, HBq, HFq⟩ := hrel
          by_cases hpk : p < k
          · obtain ⟨n0, n1, n2, n3⟩ := ten0' HBq.out
            have z2 := blk_free HBq.out 2
            have glq := blk_lt HBq.out
            have glq1 : g < wr.heap.size + 1 := by omega
            have hhg : ¬ SG' g h := by unfold SG'; omega
            have j7q : wr.cell? ⟨h, 7, none⟩ = some (.int .u8 (j : Int)) := (nines (HFq.out.heap (HF.out.heap (HFC.out.heap HB1.out hhg) hhg) hhg)).2.2.2.2.2.2.2.1
            have hp8 : (p : Int) % 8 = (p : Int) := by omega
            have hpow : (j : Int) / 2 ^ p = ((j / 2 ^ p : Nat) : Int) := by push_cast; rfl
            obtain ⟨q, hq⟩ : ∃ q, j / 2 ^ p = q := ⟨_, rfl⟩
            rw [hq] at hpow
            have HQ := Lib.hid hq
            clear hq
            by_cases hjn : 0 < p ∧ q % 2 = 1
            · have hmk : mkParts j (p + 1) = joinP (mkParts j p) p := by
                show (if 0 < p ∧ j / 2 ^ (p % 8) % 2 = 1 then joinP (mkParts j p) p else mkParts j p ++ [[(p : Int)]]) = _
                rw [if_pos (by rw [show p % 8 = p by omega, HQ.out]; exact hjn)]
              have hne : M ≠ [] := by
                intro e
                apply mkParts_ne j p hjn.1
                rw [← HP.out.map, e]
                rfl
              obtain ⟨M0, x, hM⟩ : ∃ M0 x, M = M0 ++ [x] := ⟨_, _, (List.dropLast_concat_getLast hne).symm⟩
              subst hM
              have hxl : x.2.2.length ≤ p := by
                refine mkParts_el j p _ ?_
                rw [← HP.out.map]
                simp
              obtain ⟨x0, x1', x2⟩ := x
              have PA := HP.out.fr (w1 := wr.alloc (.cells #[.int .i64 (p : Int)] 3)) ((Fr.refl No wr).alloc _) (fun _ _ k => k)
              have OX := (PA.last M0 _ rfl).1
              obtain ⟨g3, c3, hv3, hg3, hg3l, hc3, hcell⟩ := HP.out.form
              have hx0 := ((HP.out.rows.rd (x0, x1', x2) (by simp)).2.1)
              obtain ⟨m0, hm0⟩ : ∃ m, M0.length = m := ⟨_, rfl⟩
              obtain ⟨lx, hlx⟩ : ∃ m, x2.length = m := ⟨_, rfl⟩
              obtain ⟨L, hL⟩ : ∃ m, m0 + 1 = m := ⟨_, rfl⟩
              have hm8 : m0 < 8 := by
                have h1 := mkParts_len j p
                rw [← HP.out.map, List.length_map, List.length_append, hm0] at h1
                simp at h1
                omega
              rw [hm0, hL] at hv3 hc3
              rw [hm0] at hcell
              simp only [hlx] at hcell OX hxl
              subst hv3
              have hq := hcell _ (Fr.refl _ _)
              have hqc := hq.1
              have hLi : IntKind.i64.wrap ((L : Int) - 1) = (m0 : Int) := by rw [show (L : Int) - 1 = (m0 : Int) by omega]; exact IntWalk.i64_in _ (by omega)
              have hL0 : (0 : Int) ≤ (m0 : Int) := by omega
              have hL1 : (m0 : Int) < (L : Int) := by omega
              have hP0 : (0 : Int) < (p : Int) := by omega
              have hq2 : (q : Int) % 2 = 1 := by omega
              have g3l1 : g3 < wr.heap.size + 1 := by omega
              have KC : Hid (∀ W, Fr (fun i => (Value.slice x0 lx x1').ownBlock = some i) wr W → W.cell? ⟨g, 2, none⟩ = some (.slice (some ⟨g3, 0, none⟩) L c3) ∧ W.cell? ⟨g3, m0, none⟩ = some (.slice x0 lx x1')) := by
                show ∀ W, _
                intro W hW
                refine ⟨(ten0' (hW.heap HBq.out (fun e => ?_))).2.2.1, (hcell W hW).1⟩
                cases x0 with
                | none => simp [Value.ownBlock] at e
                | some ad => simp [Value.ownBlock] at e; have := (hx0 ad rfl).1; have := HGW.out; omega
              have FQ := Fr.refl (fun i => (Value.slice x0 lx x1').ownBlock = some i) wr
              have FA := FQ.alloc (.cells #[.int .i64 (p : Int)] 3)
              have HPA := Lib.hid PA
              have HOX := Lib.hid OX
              have HCE := Lib.hid hcell
              have HMK := Lib.hid hmk
              have HM0 := Lib.hid hm0
              have HLX := Lib.hid hlx
              have HLL := Lib.hid hL
              have HG3 := Lib.hid hg3
              have hil : Hid ((ints .i64 x2).length = lx) := by show (ints .i64 x2).length = lx; rw [ints_length, hlx]
              have hlo : Hid (∀ i, (Value.slice x0 lx x1').ownBlock = some i → ws.heap.size ≤ i) := by
                show ∀ i, _
                intro i hi
                cases x0 with
                | none => simp [Value.ownBlock] at hi
                | some ad => simp [Value.ownBlock] at hi; subst hi; exact (hx0 ad rfl).1
              clear hne hmk hm0 hlx hL PA OX hcell hx0 hc3 hq hjn hg3 n0 n1 n3
              go_upto_region 36 with (fail)
              refine wp_region_noPanic ?_
              refine heldZ_start (fun W => W.cell? ⟨g, 2, none⟩ = some (.slice (some ⟨g3, 0, none⟩) L c3) ∧ W.cell? ⟨g3, m0, none⟩ = some (.slice x0 lx x1')) 18 (by kernel_rfl) ?_
              have HS0 := KC.out _ FQ.drew
              (refine heldZ_take 0 194 (v := ?_) rfl rfl (by kernel_rfl) (by kernel_rfl) (by kernel_rfl) (by kernel_rfl) (fun _ _ _ h => h) HS0 (by rfl) ?_ ?_; rotate_left; (intro w hSw; (try dsimp only at hSw); go_simp; try with_reducible rfl); simp only [Act.put, List.setIfInBounds_toArray, List.set_cons_zero, List.set_cons_succ])
              (refine heldZ_take 1 195 (v := ?_) rfl rfl (by kernel_rfl) (by kernel_rfl) (by kernel_rfl) (by kernel_rfl) (fun _ _ _ h => h) HS0 (by rfl) ?_ ?_; rotate_left; (intro w hSw; (try dsimp only at hSw); go_simp; try with_reducible rfl); simp only [Act.put, List.setIfInBounds_toArray, List.set_cons_zero, List.set_cons_succ])
              (refine heldZ_take 2 196 (v := ?_) rfl rfl (by kernel_rfl) (by kernel_rfl) (by kernel_rfl) (by kernel_rfl) (fun _ _ _ h => h) HS0 (by rfl) ?_ ?_; rotate_left; (intro w hSw; (try dsimp only at hSw); go_simp; try with_reducible rfl); simp only [Act.put, List.setIfInBounds_toArray, List.set_cons_zero, List.set_cons_succ])
              (refine heldZ_take 3 197 (v := ?_) rfl rfl (by kernel_rfl) (by kernel_rfl) (by kernel_rfl) (by kernel_rfl) (fun _ _ _ h => h) HS0 (by rfl) ?_ ?_; rotate_left; (intro w hSw; (try dsimp only at hSw); go_simp; try with_reducible rfl); simp only [Act.put, List.setIfInBounds_toArray, List.set_cons_zero, List.set_cons_succ])
              (refine heldZ_take 4 198 (v := ?_) rfl rfl (by kernel_rfl) (by kernel_rfl) (by kernel_rfl) (by kernel_rfl) (fun _ _ _ h => h) HS0 (by rfl) ?_ ?_; rotate_left; (intro w hSw; (try dsimp only at hSw); go_simp; try with_reducible rfl); simp only [Act.put, List.setIfInBounds_toArray, List.set_cons_zero, List.set_cons_succ])
              (refine heldZ_take 5 199 (v := ?_) rfl rfl (by kernel_rfl) (by kernel_rfl) (by kernel_rfl) (by kernel_rfl) (fun _ _ _ h => h) HS0 (by rfl) ?_ ?_; rotate_left; (intro w hSw; (try dsimp only at hSw); go_simp; try with_reducible rfl); simp only [Act.put, List.setIfInBounds_toArray, List.set_cons_zero, List.set_cons_succ])
              (refine heldZ_take 6 200 (v := ?_) rfl rfl (by kernel_rfl) (by kernel_rfl) (by kernel_rfl) (by kernel_rfl) (fun _ _ _ h => h) HS0 (by rfl) ?_ ?_; rotate_left; (intro w hSw; (try dsimp only at hSw); go_simp; try with_reducible rfl); simp only [Act.put, List.setIfInBounds_toArray, List.set_cons_zero, List.set_cons_succ])
              (refine heldZ_take 7 201 (v := ?_) rfl rfl (by kernel_rfl) (by kernel_rfl) (by kernel_rfl) (by kernel_rfl) (fun _ _ _ h => h) HS0 (by rfl) ?_ ?_; rotate_left; (intro w hSw; (try dsimp only at hSw); go_simp; try with_reducible rfl); simp only [Act.put, List.setIfInBounds_toArray, List.set_cons_zero, List.set_cons_succ])
              (refine heldZ_take 8 202 (v := ?_) rfl rfl (by kernel_rfl) (by kernel_rfl) (by kernel_rfl) (by kernel_rfl) (fun _ _ _ h => h) HS0 (by rfl) ?_ ?_; rotate_left; (intro w hSw; (try dsimp only at hSw); go_simp; try with_reducible rfl); simp only [Act.put, List.setIfInBounds_toArray, List.set_cons_zero, List.set_cons_succ])
              (refine heldZ_take 9 203 (v := ?_) rfl rfl (by kernel_rfl) (by kernel_rfl) (by kernel_rfl) (by kernel_rfl) (fun _ _ _ h => h) HS0 (by rfl) ?_ ?_; rotate_left; (intro w hSw; (try dsimp only at hSw); go_simp; try with_reducible rfl); simp only [Act.put, List.setIfInBounds_toArray, List.set_cons_zero, List.set_cons_succ])
              (refine heldZ_take 10 204 (v := ?_) rfl rfl (by kernel_rfl) (by kernel_rfl) (by kernel_rfl) (by kernel_rfl) (fun _ _ _ h => h) HS0 (by rfl) ?_ ?_; rotate_left; (intro w hSw; (try dsimp only at hSw); go_simp; try with_reducible rfl); simp only [Act.put, List.setIfInBounds_toArray, List.set_cons_zero, List.set_cons_succ])
              (refine heldZ_take 11 205 (v := ?_) rfl rfl (by kernel_rfl) (by kernel_rfl) (by kernel_rfl) (by kernel_rfl) (fun _ _ _ h => h) HS0 (by rfl) ?_ ?_; rotate_left; (intro w hSw; (try dsimp only at hSw); go_simp; try with_reducible rfl); simp only [Act.put, List.setIfInBounds_toArray, List.set_cons_zero, List.set_cons_succ])
              (refine heldZ_take 12 206 (v := ?_) rfl rfl (by kernel_rfl) (by kernel_rfl) (by kernel_rfl) (by kernel_rfl) (fun _ _ _ h => h) HS0 (by rfl) ?_ ?_; rotate_left; (intro w hSw; (try dsimp only at hSw); go_simp; try with_reducible rfl); simp only [Act.put, List.setIfInBounds_toArray, List.set_cons_zero, List.set_cons_succ])
              (refine heldZ_take 13 207 (v := ?_) rfl rfl (by kernel_rfl) (by kernel_rfl) (by kernel_rfl) (by kernel_rfl) (fun _ _ _ h => h) HS0 (by rfl) ?_ ?_; rotate_left; (intro w hSw; (try dsimp only at hSw); go_simp; try with_reducible rfl); simp only [Act.put, List.setIfInBounds_toArray, List.set_cons_zero, List.set_cons_succ])
              (refine heldZ_take 14 208 (v := ?_) rfl rfl (by kernel_rfl) (by kernel_rfl) (by kernel_rfl) (by kernel_rfl) (fun _ _ _ h => h) HS0 (by rfl) ?_ ?_; rotate_left; (intro w hSw; (try dsimp only at hSw); go_simp; try with_reducible rfl); simp only [Act.put, List.setIfInBounds_toArray, List.set_cons_zero, List.set_cons_succ])
              refine heldZ_step 15 rfl (by kernel_rfl) (fun K hK => ?_)
              go_simp
              have HS1 := KC.out _ FA.drew
              refine hK.out _ _ (fun _ => HS1) ?_
              clear hK K HS0
              try simp only [Act.put, List.setIfInBounds_toArray, List.set_cons_zero, List.set_cons_succ]
              refine heldZ_step 16 rfl (by kernel_rfl) (fun K hK => ?_)
              refine step_own_append rfl (.tmp 207) (.tmp 209) 49 3 (.int .i64 0) 8 rfl Try.underlying49 infoInt rfl (by decide) (.slice x0 lx x1') (ints .i64 x2) (.int .i64 (p : Int)) wr.heap.size (by rfl) (by rfl) (by show (wr.alloc (.cells #[.int .i64 (p : Int)] 3)).cell? _ = _; rw [blk_cell (blk_new _ _)]; rfl) rfl (show Own (wr.alloc (.cells #[.int .i64 (p : Int)] 3)).drew _ _ _ from HOX.out.fr ((Fr.refl No _).drew) (fun _ _ k => k)) (by rw [hil.out]; omega) ?_
              intro v4 w4 o4 f4 a4
              have G4 : Fr (fun i => (Value.slice x0 lx x1').ownBlock = some i) (wr.alloc (.cells #[.int .i64 (p : Int)] 3)) w4 := ⟨f4.os, f4.tape, f4.output, f4.size, f4.block⟩
              have G5 := FA.trans G4 (fun i hi => .inl hi)
              obtain ⟨m1, y1⟩ := HCE.out w4 G5
              obtain ⟨A4, c4, hv4, _⟩ := o4.shape
              have hl4 : (ints .i64 x2 ++ [Value.int .i64 (p : Int)]).length = lx + 1 := (by rw [List.length_append, hil.out]; rfl)
              rw [hl4] at hv4
              subst hv4
              have HS2 := KC.out _ G5
              refine hK.out _ _ (fun _ => HS2) ?_
              clear hK K HS1
              try simp only [Act.put, List.setIfInBounds_toArray, List.set_cons_zero, List.set_cons_succ]
              (refine heldZ_take 17 211 (v := ?_) rfl rfl (by kernel_rfl) (by kernel_rfl) (by kernel_rfl) (by kernel_rfl) (fun _ _ _ h => h) HS2 (by rfl) ?_ ?_; rotate_left; (intro w hSw; (try dsimp only at hSw); go_simp; try with_reducible rfl); simp only [Act.put, List.setIfInBounds_toArray, List.set_cons_zero, List.set_cons_succ])
              refine heldZ_step 18 rfl (by kernel_rfl) (fun K hK => ?_)
              go_simp
              refine hK.out _ _ (fun h => absurd rfl h) ?_
              clear hK K HS2
              refine heldZ_done (by kernel_rfl) (NoPanic.normal ?_)
              all_goals
                have H1 : Hid (Parts ws (w4.setCell ⟨g3, m0, none⟩ (.slice A4 (lx + 1) c4)) (.slice (some ⟨g3, 0, none⟩) L c3) (M0 ++ [(A4, c4, x2 ++ [(p : Int)])]) (mkParts j (p + 1))) := by
                  have a5 : (Value.slice A4 (lx + 1) c4).ownBlock = (Value.slice x0 lx x1').ownBlock ∨ ∃ b, (Value.slice A4 (lx + 1) c4).ownBlock = some b ∧ (wr.alloc (.cells #[.int .i64 (p : Int)] 3)).heap.size ≤ b := a4
                  have := HPA.out.join (i := (p : Int)) (x := (x0, x1', x2)) (A4 := A4) (c4 := c4) (w1 := w4) (g := g3) (c := c3) (by rw [HLX.out]; exact o4) (by rw [HLX.out]; exact G4) (by rw [HLX.out]; exact a5) (by rw [HM0.out, HLL.out])
                  rw [HM0.out, HLX.out] at this
                  rw [HMK.out]
                  exact this
                have H2 : Hid ((w4.setCell ⟨g3, m0, none⟩ (.slice A4 (lx + 1) c4)).heap[g]? = _) := blk_set_ne (G5.heap HBq.out (fun e => by have := hlo.out g e; have := HGW.out; omega)) (by show g ≠ g3; have := HG3.out; have := HGW.out; omega) (.slice A4 (lx + 1) c4)
                have H3 := Lib.hid ((HFq.out.trans G5 (fun i hi => .inr (hlo.out i hi))).setCell (p := ⟨g3, m0, none⟩) (.inr HG3.out) (.slice A4 (lx + 1) c4))
                clear o4 f4 a4 G4 G5 m1 y1 FA FQ KC hqc z2 hLi
                go_wp2
                go_roundg (k - (p + 1))
                case measure => omega
                case rel => exact ⟨p + 1, _, _, by omega, by go_num, H1, H2, H3⟩
            · have hmk : mkParts j (p + 1) = mkParts j p ++ [[(p : Int)]] := by
                show (if 0 < p ∧ j / 2 ^ (p % 8) % 2 = 1 then joinP (mkParts j p) p else mkParts j p ++ [[(p : Int)]]) = _
                rw [if_neg (by rw [show p % 8 = p by omega, HQ.out]; exact hjn)]
              have hsub : (¬ (0 : Int) < (p : Int)) ∨ ((0 : Int) < (p : Int) ∧ (q : Int) % 2 = 0) := by omega
              have HMK := Lib.hid hmk
              have HPL : Hid (M.length ≤ p) := by
                have := mkParts_len j p
                rw [← HP.out.map, List.length_map] at this
                exact this
              have PA : Hid (OwnK (wr.alloc (.cells #[.int .i64 (p : Int)] 3)) 49 1 v3 M.length (ilv M)) := HP.out.rows.own.alloc _
              have HBA := Lib.hid (blk_alloc HBq.out (.cells #[.int .i64 (p : Int)] 3))
              have HFA := Lib.hid (HFq.out.alloc (.cells #[.int .i64 (p : Int)] 3))
              have hwq : ws.heap.size ≤ wr.heap.size := HFq.out.size
              have HWQ := Lib.hid hwq
              clear hmk hjn n0 n1 n3 hwq
              rcases hsub with hsub | ⟨hsub, hsub2⟩
              all_goals
                go_wp2_with (at_builtin; go_loud (refine own_append_k rfl (.tmp 213) (.tmp 216) 35 49 (.slice none 0 0) 1 24 rfl Try.underlying35 infoII rfl (by decide) (by decide) _ M.length (ilv M) _ _ rfl rfl (by simp) rfl (by simp [Value.oneCell']) PA.out (by have := HPL.out; omega) ?_))
                intro v4 w5 o5 f5 a5
                have a6 : v4.ownBlock = v3.ownBlock ∨ ∃ b, v4.ownBlock = some b ∧ (wr.alloc (.cells #[.int .i64 (p : Int)] 3)).heap.size ≤ b := by simpa using a5
                obtain ⟨B5, N5, F5⟩ := after_app HBA.out HGW.out HP.out.rows.old HFA.out f5 a6
                have P5 := HP.out.begin (i := (p : Int)) HWQ.out o5 f5 a6
                obtain ⟨A4, c4, hv4, _⟩ := o5.shape
                subst hv4
                have y0 := (ten0' B5).2.2.1
                have y1 := blk_free B5 2
                have fs : Fr (SG' g) w5 (w5.setCell ⟨g, 2, none⟩ (.slice A4 (M.length + 1) c4)) := (Fr.refl (SG' g) w5).setCell (p := ⟨g, 2, none⟩) (.inl rfl) (.slice A4 (M.length + 1) c4)
                have H1 : Hid (Parts ws (w5.setCell ⟨g, 2, none⟩ (.slice A4 (M.length + 1) c4)) (.slice A4 (M.length + 1) c4) (M ++ [(some ⟨wr.heap.size, 0, none⟩, 1, [(p : Int)])]) (mkParts j (p + 1))) := by
                  rw [HMK.out]
                  exact P5.fr fs (fun q hq e => by have e2 : q = g := e; have := HGW.out; omega)
                have H2 : Hid ((w5.setCell ⟨g, 2, none⟩ (.slice A4 (M.length + 1) c4)).heap[g]? = _) := blk_set B5 2 (.slice A4 (M.length + 1) c4)
                have H3 := Lib.hid (F5.trans fs (fun i hi => .inl hi))
                clear o5 f5 a5 a6 B5 N5 F5 P5 fs PA HBA HFA HMK HPL
                go_wp2
                go_roundg (k - (p + 1))
                case measure => omega
                case rel => exact ⟨p + 1, _, _, by omega, by go_num, H1, H2, H3⟩
          · obtain rfl : p = k := by omega
            obtain ⟨Ap, cp, hv3, _, _, RP, UP, UX⟩ := Rd2.ownU HP.out.rows
            have HUP := Lib.hid (And.intro UP UX)
            subst hv3
            have hhg : ¬ SG' g h := by unfold SG'; omega
            have hh2g : ¬ SG' g h2 := by unfold SG'; omega
            obtain ⟨_, _, j2, j3, j4, j5, j6, _⟩ := nines (HFq.out.heap (HF.out.heap (HFC.out.heap HB1.out hhg) hhg) hhg)
            have HRS := Lib.hid (HFq.out.heap (HF.out.heap (HFC.out.heap HBR.out hh2g) hh2g) hh2g)
            have HHB := Lib.hid (HFq.out.heap (HF.out.heap (HFC.out.heap HB1.out hhg) hhg) hhg)
            have HRP := Lib.hid RP
            have n5 := (tens HBq.out).2.2.2.2.2.1
            have z5 := blk_free HBq.out 5
            have u10 : 10 ≤ u := by have := HUN.out; unfold unitN at this; omega
            have u20 : (0 : Int) < 2 * (u : Int) := by omega
            have u21 : ¬ 2 * (u : Int) = 0 := by omega
            have hs0 : 1 + (s : Int) % (2 * (u : Int)) = ((1 + s % (2 * u) : Nat) : Int) := by push_cast; rfl
            have hs1' : 0 ≤ (s : Int) % (2 * (u : Int)) := Int.emod_nonneg _ u21
            have hs2 : (s : Int) % (2 * (u : Int)) < 2 * (u : Int) := Int.emod_lt_of_pos _ u20
            obtain ⟨sp, hsp⟩ : ∃ x : Int, ((1 + s % (2 * u) : Nat) : Int) = x := ⟨_, rfl⟩
            rw [hsp] at hs0
            have HSP := Lib.hid hsp
            clear hsp RP UP UX hhg hh2g
            go_upto_region 39 with (fail)
            obtain ⟨wu, hwu⟩ : ∃ W, wr.setCell ⟨g, 5, none⟩ (.int .i64 sp) = W := ⟨_, rfl⟩
            have fu : Fr (SG' g) wr wu := by rw [← hwu]; exact (Fr.refl (SG' g) wr).setCell (p := ⟨g, 5, none⟩) (.inl rfl) _
            have bu : wu.heap[g]? = some (.cells #[.slice An nn cn, .slice As p cs, .slice Ap M.length cp, .slice Aq nq' cq, .slice none 0 0, .int .i64 sp, .int .i64 0, .int .i64 0, .int .i64 0, .int .i64 0] 38 (0, 0)) := by rw [← hwu]; exact blk_set HBq.out 5 _
            rw [hwu]
            have hhg : ¬ SG' g h := by unfold SG'; omega
            have hh2g : ¬ SG' g h2 := by unfold SG'; omega
            have FU := Lib.hid (HFq.out.trans fu (fun i hi => .inl hi))
            have HWU := Lib.hid fu
            have HB2 := Lib.hid (fu.heap HHB.out hhg)
            have HR2 := Lib.hid (fu.heap HRS.out hh2g)
            have HRP2 := Lib.hid (HRP.out.fr fu (fun q hq e => by have e2 : q = g := e; have := HGW.out; omega))
            have HBU := Lib.hid bu
            obtain ⟨_, _, _, j3, j4, j5, j6, _⟩ := nines HB2.out
            obtain ⟨_, _, _, _, _, _, n6, n7, n8, n9⟩ := tens bu
            have z6 := blk_free bu 6
            have z7 := blk_free bu 7
            have z8 := blk_free bu 8
            have z9 := blk_free bu 9
            have q7 : ∀ a, (wu.setCell ⟨g, 6, none⟩ a).cell? ⟨g, 7, none⟩ = some (.int .i64 0) := fun a => by rw [blk_cell (blk_set bu 6 a)]; rfl
            have y7 : ∀ a, (wu.setCell ⟨g, 6, none⟩ a).frozen? ⟨g, 7, none⟩ = false := fun a => blk_free (blk_set bu 6 a) 7
            have q8 : ∀ a b, ((wu.setCell ⟨g, 6, none⟩ a).setCell ⟨g, 7, none⟩ b).cell? ⟨g, 8, none⟩ = some (.int .i64 0) := fun a b => by rw [blk_cell (blk_set (blk_set bu 6 a) 7 b)]; rfl
            have y8 : ∀ a b, ((wu.setCell ⟨g, 6, none⟩ a).setCell ⟨g, 7, none⟩ b).frozen? ⟨g, 8, none⟩ = false := fun a b => blk_free (blk_set (blk_set bu 6 a) 7 b) 8
            have q9 : ∀ a b c, (((wu.setCell ⟨g, 6, none⟩ a).setCell ⟨g, 7, none⟩ b).setCell ⟨g, 8, none⟩ c).cell? ⟨g, 9, none⟩ = some (.int .i64 0) := fun a b c => by rw [blk_cell (blk_set (blk_set (blk_set bu 6 a) 7 b) 8 c)]; rfl
            have y9 : ∀ a b c, (((wu.setCell ⟨g, 6, none⟩ a).setCell ⟨g, 7, none⟩ b).setCell ⟨g, 8, none⟩ c).frozen? ⟨g, 9, none⟩ = false := fun a b c => blk_free (blk_set (blk_set (blk_set bu 6 a) 7 b) 8 c) 9
            have t3 : (m : Int).tmod 1000 = ((m % 1000 : Nat) : Int) := by rw [Int.tmod_eq_emod_of_nonneg (by omega)]; rfl
            have t4 : (wt : Int).tmod 1000 = ((wt % 1000 : Nat) : Int) := by rw [Int.tmod_eq_emod_of_nonneg (by omega)]; rfl
            have t6 : (st : Int).tmod 4 = ((st % 4 : Nat) : Int) := by rw [Int.tmod_eq_emod_of_nonneg (by omega)]; rfl
            have hne : ¬ h = g := by omega
            have hne' : ¬ g = h := by omega
            clear hwu fu bu hhg hh2g j2 n5 z5 hs1' hs2
            go_region_held3 (fun W => W.cell? ⟨h, 3, none⟩ = some (.int .u16 (m : Int)) ∧ W.cell? ⟨h, 4, none⟩ = some (.int .u16 (wt : Int)) ∧ W.cell? ⟨h, 5, none⟩ = some (.int .u8 (c : Int)) ∧ W.cell? ⟨h, 6, none⟩ = some (.int .u8 (st : Int))) (go_keep) (fail)
            have v6 : IntKind.i64.wrap (1 + IntKind.i64.wrap ((m : Int) % 1000)) = ((1 + m % 1000 : Nat) : Int) := by rw [IntWalk.i64_in ((m : Int) % 1000) (by omega), IntWalk.i64_in _ (by omega)]; push_cast; rfl
            have v7 : IntKind.i64.wrap (1 + IntKind.i64.wrap ((wt : Int) % 1000)) = ((1 + wt % 1000 : Nat) : Int) := by rw [IntWalk.i64_in ((wt : Int) % 1000) (by omega), IntWalk.i64_in _ (by omega)]; push_cast; rfl
            have v8 : IntKind.i64.wrap (1 + IntKind.i64.wrap (c : Int)) = ((1 + c : Nat) : Int) := by rw [IntWalk.i64_in (c : Int) (by omega), IntWalk.i64_in _ (by omega)]; push_cast; rfl
            have v9 : IntKind.i64.wrap ((st : Int) % 4) = ((st % 4 : Nat) : Int) := by rw [IntWalk.i64_in _ (by omega)]; push_cast; rfl
            rw [v6, v7, v8, v9]
            have fv := (((((Fr.refl (SG' g) wu).setCell (p := ⟨g, 6, none⟩) (.inl rfl) (.int .i64 ((1 + m % 1000 : Nat) : Int))).setCell (p := ⟨g, 7, none⟩) (.inl rfl) (.int .i64 ((1 + wt % 1000 : Nat) : Int))).setCell (p := ⟨g, 8, none⟩) (.inl rfl) (.int .i64 ((1 + c : Nat) : Int))).setCell (p := ⟨g, 9, none⟩) (.inl rfl) (.int .i64 ((st % 4 : Nat) : Int))).drew
            have bv := blk_set (blk_set (blk_set (blk_set HBU.out 6 (.int .i64 ((1 + m % 1000 : Nat) : Int))) 7 (.int .i64 ((1 + wt % 1000 : Nat) : Int))) 8 (.int .i64 ((1 + c : Nat) : Int))) 9 (.int .i64 ((st % 4 : Nat) : Int))
            obtain ⟨wv, hwv⟩ : ∃ W, ((((wu.setCell ⟨g, 6, none⟩ (.int .i64 ((1 + m % 1000 : Nat) : Int))).setCell ⟨g, 7, none⟩ (.int .i64 ((1 + wt % 1000 : Nat) : Int))).setCell ⟨g, 8, none⟩ (.int .i64 ((1 + c : Nat) : Int))).setCell ⟨g, 9, none⟩ (.int .i64 ((st % 4 : Nat) : Int))).drew = W := ⟨_, rfl⟩
            rw [hwv] at fv ⊢
            have bv2 : wv.heap[g]? = some (.cells #[.slice An nn cn, .slice As p cs, .slice Ap M.length cp, .slice Aq nq' cq, .slice none 0 0, .int .i64 sp, .int .i64 ((1 + m % 1000 : Nat) : Int), .int .i64 ((1 + wt % 1000 : Nat) : Int), .int .i64 ((1 + c : Nat) : Int), .int .i64 ((st % 4 : Nat) : Int)] 38 (0, 0)) := by rw [← hwv]; exact bv
            have HGV := Lib.hid bv2
            have hh2g : ¬ SG' g h2 := by unfold SG'; omega
            have HRV := Lib.hid (fv.heap HR2.out hh2g)
            have HFV := Lib.hid (FU.out.trans fv (fun i hi => .inl hi))
            have HUV := Lib.hid fv
            have HRPV := Lib.hid (HRP2.out.fr fv (fun q hq e => by have e2 : q = g := e; have := HGW.out; omega))
            clear v6 v7 v8 v9 fv bv bv2 hwv hh2g q7 q8 q9 y7 y8 y9 n6 n7 n8 n9 z6 z7 z8 z9 j3 j4 j5 j6 t3 t4 t6
            go_upto_region 40 with (fail)
            refine wp_region_lit ?_
            refine wpList_load_row rfl 38 (.tmp 6) rfl g rfl 38 _ (0, 0) _ HGV.out Try.underlying38 rfl (by kernel_rfl) ?_
            simp only [Act.put, List.setIfInBounds_toArray, List.set_cons_zero, List.set_cons_succ]
            refine wpList_store_row rfl 38 (.tmp 2) (.tmp 249) rfl h2 _ rfl rfl 38 _ HRV.out (by kernel_rfl) (by simp) (by simp [Value.oneCell']) ?_
            go_wp2
            refine bodyPost_ret (results_cell1 rfl _ _ _ h2 _ rfl (run_loadVar_row _ h2 _ _ _ _ _ (setRow_heap _ h2 _ _ _ _ HRV.out) Try.underlying38 rfl (by kernel_rfl))) rfl ?_
            have hbase : w.heap.size ≤ W3.heap.size := by have := blk_lt HB3.out; omega
            have hcs : W3.heap.size ≤ wc.heap.size := HFC.out.size
            have hws : wc.heap.size ≤ ws.heap.size := HF.out.size
            have hg3 := blk_lt HB3.out
            have G1 : Fr (fun q => q = g ∨ q = h2) ws (wv.setRow h2 #[.slice An nn cn, .slice As p cs, .slice Ap M.length cp, .slice Aq nq' cq, .slice none 0 0, .int .i64 sp, .int .i64 ((1 + m % 1000 : Nat) : Int), .int .i64 ((1 + wt % 1000 : Nat) : Int), .int .i64 ((1 + c : Nat) : Int), .int .i64 ((st % 4 : Nat) : Int)]) := (HFV.out.mono (fun i hi => .inl hi)).row (.inl (.inr rfl))
            have G0 : Fr (fun q => q = g ∨ q = h2) wc (wv.setRow h2 #[.slice An nn cn, .slice As p cs, .slice Ap M.length cp, .slice Aq nq' cq, .slice none 0 0, .int .i64 sp, .int .i64 ((1 + m % 1000 : Nat) : Int), .int .i64 ((1 + wt % 1000 : Nat) : Int), .int .i64 ((1 + c : Nat) : Int), .int .i64 ((st % 4 : Nat) : Int)]) := (HF.out.mono (fun i hi => .inl hi)).trans G1 (fun i hi => .inl hi)
            have e1 : (mkL f l s m wt c st j []).no.length = nn := by show (mkNodes f (unitN l)).length = nn; rw [HUN.out]; exact HNN.out
            have e2 : (mkL f l s m wt c st j []).se.length = p := by show (mkSecs f (unitN l) (mkEnds f).length).length = p; rw [← HNL.out]; simp [mkSecs]
            have e4 : (mkL f l s m wt c st j []).po.length = nq' := HNQ.out
            have e5 : (mkL f l s m wt c st j []).sp = sp := by show ((1 + s % (2 * unitN l) : Nat) : Int) = sp; rw [HUN.out]; exact HSP.out
            have GV : Fr (fun q => q = h2) wv (wv.setRow h2 #[.slice An nn cn, .slice As p cs, .slice Ap M.length cp, .slice Aq nq' cq, .slice none 0 0, .int .i64 sp, .int .i64 ((1 + m % 1000 : Nat) : Int), .int .i64 ((1 + wt % 1000 : Nat) : Int), .int .i64 ((1 + c : Nat) : Int), .int .i64 ((st % 4 : Nat) : Int)]) := (Fr.refl (fun q => q = h2) wv).row (.inl rfl)
            have k1 : RdN w.heap.size (wv.setRow h2 #[.slice An nn cn, .slice As p cs, .slice Ap M.length cp, .slice Aq nq' cq, .slice none 0 0, .int .i64 sp, .int .i64 ((1 + m % 1000 : Nat) : Int), .int .i64 ((1 + wt % 1000 : Nat) : Int), .int .i64 ((1 + c : Nat) : Int), .int .i64 ((st % 4 : Nat) : Int)]) An 1 (mkL f l s m wt c st j []).no.length ((mkL f l s m wt c st j []).no.flatMap cx1) := by
              rw [e1]
              show RdN _ _ An 1 nn ((mkNodes f (unitN l)).flatMap cx1)
              rw [HUN.out]
              exact (HRN.out.fr G0 (fun k hk e => by rcases e with e | e <;> omega)).mono hbase
            have k2 : RdN w.heap.size (wv.setRow h2 #[.slice An nn cn, .slice As p cs, .slice Ap M.length cp, .slice Aq nq' cq, .slice none 0 0, .int .i64 sp, .int .i64 ((1 + m % 1000 : Nat) : Int), .int .i64 ((1 + wt % 1000 : Nat) : Int), .int .i64 ((1 + c : Nat) : Int), .int .i64 ((st % 4 : Nat) : Int)]) As 3 (mkL f l s m wt c st j []).se.length ((mkL f l s m wt c st j []).se.flatMap sei) := by
              rw [e2]
              show RdN _ _ As 3 p ((mkSecs f (unitN l) (mkEnds f).length).flatMap sei)
              rw [HUN.out, HNL.out]
              exact (HRS0.out.fr G1 (fun k hk e => by rcases e with e | e <;> omega)).mono (Nat.le_trans hbase hcs)
            have k3 : Rd2 w.heap.size (wv.setRow h2 #[.slice An nn cn, .slice As p cs, .slice Ap M.length cp, .slice Aq nq' cq, .slice none 0 0, .int .i64 sp, .int .i64 ((1 + m % 1000 : Nat) : Int), .int .i64 ((1 + wt % 1000 : Nat) : Int), .int .i64 ((1 + c : Nat) : Int), .int .i64 ((st % 4 : Nat) : Int)]) Ap M := (HRPV.out.fr GV (fun k hk e => by have e2 : k = h2 := e; omega)).mono (by omega)
            have k3' : M.map (fun x => x.2.2) = (mkL f l s m wt c st j []).pa := by
              show M.map (fun x => x.2.2) = mkParts j (mkEnds f).length
              rw [HNL.out]
              exact HP.out.map
            have k4 : RdN w.heap.size (wv.setRow h2 #[.slice An nn cn, .slice As p cs, .slice Ap M.length cp, .slice Aq nq' cq, .slice none 0 0, .int .i64 sp, .int .i64 ((1 + m % 1000 : Nat) : Int), .int .i64 ((1 + wt % 1000 : Nat) : Int), .int .i64 ((1 + c : Nat) : Int), .int .i64 ((st % 4 : Nat) : Int)]) Aq 4 (mkL f l s m wt c st j []).po.length ((mkL f l s m wt c st j []).po.flatMap poi) := by
              rw [e4]
              exact (HRQ.out.fr G0 (fun k hk e => by rcases e with e | e <;> omega)).mono hbase
            have both := layU_mk (cn := cn) (cs := cs) (cp := cp) (cq := cq) (cr := 0) k1 (HUN'.out.fr G0) k2 (HUS.out.fr G1) k3 ⟨((HUP.out.1.fr HWU.out).fr HUV.out).fr GV, fun x hx => (((HUP.out.2 x hx).fr HWU.out).fr HUV.out).fr GV⟩ k3' k4 (HUQ.out.fr G0) (Rd2.nil _ _) ⟨fun _ e => (by cases e), fun x hx => (by cases hx)⟩ (show ([] : IL).map (fun x => x.2.2) = (mkL f l s m wt c st j []).ro from rfl)
            have hsz := G0.size
            have hon := HON0.out.fr G0 (fun b hb e => by
              cases An with
              | none => simp [Value.ownBlock] at hb
              | some ad =>
                simp [Value.ownBlock] at hb
                have := HRN.out.lo ad rfl
                rcases e with e | e <;> omega)
            have ho := ownN_mk (cn := cn) (cs := cs) (cp := cp) (cq := cq) (cr := 0) (b := w.heap.size) (L := mkL f l s m wt c st j []) (b1 := wc.heap.size) ⟨Nat.le_trans hbase hcs, hsz⟩
              (by
                show OwnK _ 45 1 (.slice An (mkNodes f (unitN l)).length cn) (mkNodes f (unitN l)).length ((mkNodes f (unitN l)).flatMap cx1)
                rw [HUN.out]
                exact hon)
              (fun ad e => ⟨Nat.le_trans hbase (HRN.out.lo ad e), HUN'.out ad e⟩)
              (by
                rw [e2]
                show RdN _ _ As 3 p ((mkSecs f (unitN l) (mkEnds f).length).flatMap sei)
                rw [HUN.out, HNL.out]
                exact HRS0.out.fr G1 (fun k hk e => by rcases e with e | e <;> omega))
              ((HRPV.out.fr GV (fun k hk e => by have e2 : k = h2 := e; omega)).mono hws) k3' k4 HOQ.out (Rd2.nil _ _) (show ([] : IL).map (fun x => x.2.2) = (mkL f l s m wt c st j []).ro from rfl)
            rw [e1, e2, e4, e5] at both ho
            exact ⟨_, rfl, both, (HF3.out.trans (T := fun q => q = g) HFC.out (fun i hi => .inr (by rw [hi]; omega))).trans G0 (fun i hi => .inr (by rcases hi with e | e <;> (rw [e]; omega))), rfl, ho⟩
  case first =>
    have H0 : (F 0 = 0) := by decide +kernel
    have hm4 : f % 4 = 0 ∨ f % 4 = 1 ∨ f % 4 = 2 ∨ f % 4 = 3 := by omega
    rcases hm4 with hf1 | hf1 | hf1 | hf1
    · have i1 : (f : Int) % 4 = 0 := by omega
      obtain ⟨n, hn⟩ : ∃ n, 3 + f / 4 % 6 = n := ⟨_, rfl⟩
      have hn9 : n ≤ 8 := by omega
      have hn0 : 3 + (f : Int) / 4 % 6 = (n : Int) := by omega
      have hu2 : u ≤ 200 := by omega
      have HF1 := Lib.hid hf1
      have HN := Lib.hid hn
      clear hf1 hn m2 m3 m4 m5 m6 a2 a3 a4 s2 s3 s4 hcq hch hcg n1 n2 n3 z1 z2 z3 q3 y3
      go_wp2
      clear i1
      go_loopg [9] (n + 1) (fun gk i wr => ∃ (k : Nat) (v2 : Value), k + gk = n + 1 ∧ i = .int .i64 (k : Int) ∧ Hid (OwnK wr 45 1 v2 k (nodC u k)) ∧ Hid (New W3 v2) ∧ Hid (wr.heap[g]? = some (.cells #[v2, .slice none 0 0, .slice none 0 0, .slice none 0 0, .slice none 0 0, .int .i64 0, .int .i64 0, .int .i64 0, .int .i64 0, .int .i64 0] 38 (0, 0))) ∧ Hid (Fr (SG' g) W3 wr))
      case atStart => exact ⟨0, _, by omega, rfl, OwnK.nil _ _ _, (fun k e => by simp [Value.ownBlock] at e), HB3.out, Fr.refl _ _⟩
      case round =>
        obtain ⟨k, v2, hk, rfl, HO, HNw, HBg, HFr⟩ := hrel
        clear n0 z0
        by_cases hkn : k ≤ n
        · have n0 := (ten0' HBg.out).1
          have z0 := blk_free HBg.out 0
          have hmul : (u : Int) * (k : Int) = ((u * k : Nat) : Int) := by push_cast; rfl
          have huk : u * k ≤ 200 * 8 := Nat.mul_le_mul hu2 (by omega)
          have hfk : floatOfInt .f64 ((u * k : Nat) : Int) = F ((u * k : Nat) : Int) := nearest_F _ (by omega)
          have hns := nodC_succ u k
          obtain ⟨p, hp⟩ : ∃ p, u * k = p := ⟨_, rfl⟩
          rw [hp] at hmul huk hfk hns
          obtain ⟨xk, hxk⟩ : ∃ x, F (p : Int) = x := ⟨_, rfl⟩
          rw [hxk] at hfk hns
          rw [H0] at hns
          have HNS := Lib.hid hns
          clear hp hxk hns
          go_wp2_with (at_builtin; go_loud (refine own_append_k rfl (.tmp 73) (.tmp 79) 33 45 (.complex .f64 0 0) 1 16 rfl Try.underlying33 infoC rfl (by decide) (by decide) _ k (nodC u k) _ _ rfl rfl rfl rfl (by simp [Value.oneCell']) HO.out ?hl ?_))
          case hl => omega
          intro v3 w5 o5 f5 a5
          obtain ⟨B5, N5, F5⟩ := after_app HBg.out gl HNw.out HFr.out f5 a5
          have O5 : OwnK w5 45 1 v3 (k + 1) (nodC u (k + 1)) := by rw [HNS.out]; exact o5
          obtain ⟨A3, c3, rfl, _⟩ := O5.shape
          have m0 := (ten0' B5).1
          have y0 := blk_free B5 0
          have fs : Fr (SG' g) w5 (w5.setCell ⟨g, 0, none⟩ (.slice A3 (k + 1) c3)) := (Fr.refl (SG' g) w5).setCell (p := ⟨g, 0, none⟩) (.inl rfl) (.slice A3 (k + 1) c3)
          have H1 : Hid (OwnK (w5.setCell ⟨g, 0, none⟩ (.slice A3 (k + 1) c3)) 45 1 (.slice A3 (k + 1) c3) (k + 1) (nodC u (k + 1))) := O5.fr fs (fun b hb e => by have e2 : b = g := e; have := N5 b hb; omega)
          have H2 : Hid ((w5.setCell ⟨g, 0, none⟩ (.slice A3 (k + 1) c3)).heap[g]? = _) := blk_set B5 0 (.slice A3 (k + 1) c3)
          have H3 := Lib.hid (F5.trans fs (fun i hi => .inl hi))
          have H4 := Lib.hid N5
          clear o5 f5 a5 O5 B5 N5 F5 fs HO HBg HFr HNw n0 z0
          go_wp2
          go_roundg (n + 1 - (k + 1))
          case measure => omega
          case rel => exact ⟨k + 1, _, by omega, by go_num, H1, H4, H2, H3⟩
        · obtain rfl : k = n + 1 := by omega
          obtain ⟨wo, hwo⟩ : ∃ wo : World, wr = wo := ⟨_, rfl⟩
          have HWO := Lib.hid hwo
          rw [hwo] at HO HBg HFr ⊢
          clear hwo
          go_wp2
          go_loopg [7, 10] n (fun gk e i wq => ∃ (k : Nat) (v3 : Value), k + gk = n ∧ v3 = e ∧ i = .int .i64 (k : Int) ∧ Hid (OwnK wq 111 2 v3 k (endC k)) ∧ Hid (New wo v3) ∧ Hid (Fr No wo wq))
          case atStart => exact ⟨0, _, by omega, rfl, rfl, OwnK.nil _ _ _, (fun k e => by simp [Value.ownBlock] at e), Fr.refl _ _⟩
          case round =>
            obtain ⟨k, v3, hk2, rfl, rfl, HE, HNe, HFe⟩ := hrel
            by_cases hkn2 : k < n
            · have hes := endC_succ k
              have HES := Lib.hid hes
              clear hes
              go_wp2_with (at_builtin; go_loud (refine own_append_k rfl (.tmp 87) (.tmp 92) 110 111 (.agg #[.int .i64 0, .int .i64 0]) 2 16 rfl Try.underlying110 info2 rfl (by decide) (by decide) _ k (endC k) _ _ rfl rfl rfl rfl (by simp [Value.oneCell']) HE.out ?hl ?_))
              case hl => omega
              intro v4 w5 o5 f5 a5
              obtain ⟨_, N5, F5⟩ := after_app (HFe.out.heap HBg.out (fun k => k)) (blk_lt HBg.out) HNe.out HFe.out f5 a5
              have H1 : Hid (OwnK w5 111 2 v4 (k + 1) (endC (k + 1))) := by rw [HES.out]; exact o5
              have H2 := Lib.hid F5
              have H3 := Lib.hid N5
              clear o5 f5 a5 N5 F5 HE HNe HFe
              go_wp2
              go_roundg (n - (k + 1))
              case measure => omega
              case rel => exact ⟨k + 1, v4, by omega, rfl, by go_num, H1, H3, H2⟩
            · obtain rfl : k = n := by omega
              go_wp2
              go_meet
              have eE : mkEnds f = (List.range k).map fun i => (i, i + 1) := by unfold mkEnds; rw [if_pos HF1.out, HN.out]
              have eN : mkNodes f u = (List.range (k + 1)).map fun i => (((u * i : Nat) : Int), 0) := by unfold mkNodes; rw [if_pos HF1.out, show 4 + f / 4 % 6 = k + 1 by have := HN.out; omega]
              have eP : mkPoints f = [] := by unfold mkPoints; rw [if_pos HF1.out]
              obtain ⟨Ae, ce, he, _, _, bE, RE⟩ := HE.out.shape
              obtain ⟨An, cn, hn2, _, _, RN, UN⟩ := RdN.ownU (HO.out.no HFe.out) HNw.out
              have gb := HFe.out.heap HBg.out (fun k => k)
              have hlE : (mkEnds f).length = k := by rw [eE]; simp
              have hlN : (mkNodes f u).length = k + 1 := by rw [eN]; simp
              refine ⟨Ae, ce, An, cn, none, 0, by rw [hlE]; exact he, ?_, fun ad e => ?_, ?_, ?_, ?_, ?_, UN, (fun ad e => by cases e), ?_, (fun ad ad' _ e => by cases e)⟩
              · rw [hlE, eE]; exact RE
              · have h1 := HNe.out _ (bE ad e); have h2 := blk_lt HBg.out; omega
              · rw [hlN, eP, ← hn2]; exact gb
              · rw [hlN, eN]; exact RN
              · rw [eP]; exact RdN.nil _ _ _
              · exact HFr.out.trans HFe.out (fun _ k => k.elim)
              · rw [hlN, eN, ← hn2]; exact HO.out.no HFe.out
    · have i1 : (f : Int) % 4 = 1 := by omega
      have HF1 := Lib.hid hf1
      clear hf1
      go_wp2
      go_meet
      refine mkCut_lit HB3.out _ _ _ _ _ _ _ _ (by unfold mkNodes; rw [if_neg (by have := HF1.out; omega), if_pos HF1.out]; rfl) (by unfold mkEnds; rw [if_neg (by have := HF1.out; omega), if_pos HF1.out]; rfl) (by unfold mkPoints; rw [if_neg (by have := HF1.out; omega), if_pos HF1.out]; rfl) ?_ ?_ ?_ rfl rfl rfl (by omega)
      · unfold mkNodes; rw [if_neg (by have := HF1.out; omega), if_pos HF1.out]; simp only [List.flatMap_cons, List.flatMap_nil, cx1, cxc, X1.out, X2.out, Y1.out, H0]; rfl
      · unfold mkEnds; rw [if_neg (by have := HF1.out; omega), if_pos HF1.out]; rfl
      · unfold mkPoints; rw [if_neg (by have := HF1.out; omega), if_pos HF1.out]; rfl
    · have i1 : (f : Int) % 4 = 2 := by omega
      have HF1 := Lib.hid hf1
      clear hf1
      go_wp2
      go_meet
      have e0 : ¬ f % 4 = 0 := by have := HF1.out; omega
      have e1 : ¬ f % 4 = 1 := by have := HF1.out; omega
      refine mkCut_lit HB3.out _ _ _ _ _ _ _ _ (by unfold mkNodes; rw [if_neg e0, if_neg e1, if_pos HF1.out]; rfl) (by unfold mkEnds; rw [if_neg e0, if_neg e1, if_pos HF1.out]; rfl) (by unfold mkPoints; rw [if_neg e0, if_neg e1, if_pos HF1.out]; rfl) ?_ ?_ ?_ rfl rfl rfl (by omega)
      · unfold mkNodes; rw [if_neg e0, if_neg e1, if_pos HF1.out, show u / 2 = v by rw [← HU5.out, HUN.out]]; simp only [List.flatMap_cons, List.flatMap_nil, cx1, cxc, X1.out, X2.out, X3.out, X4.out, X5.out, X6.out, XV.out, YV.out, H0]; rfl
      · unfold mkEnds; rw [if_neg e0, if_neg e1, if_pos HF1.out]; rfl
      · unfold mkPoints; rw [if_neg e0, if_neg e1, if_pos HF1.out]; rfl
    · have i1 : (f : Int) % 4 = 3 := by omega
      have HF1 := Lib.hid hf1
      clear hf1
      go_wp2
      go_meet
      have e0 : ¬ f % 4 = 0 := by have := HF1.out; omega
      have e1 : ¬ f % 4 = 1 := by have := HF1.out; omega
      have e2 : ¬ f % 4 = 2 := by have := HF1.out; omega
      refine mkCut_lit HB3.out _ _ _ _ _ _ _ _ (by unfold mkNodes; rw [if_neg e0, if_neg e1, if_neg e2]; rfl) (by unfold mkEnds; rw [if_neg e0, if_neg e1, if_neg e2]; rfl) (by unfold mkPoints; rw [if_neg e0, if_neg e1, if_neg e2]; rfl) ?_ ?_ ?_ rfl rfl rfl (by omega)
      · unfold mkNodes; rw [if_neg e0, if_neg e1, if_neg e2]; simp only [List.flatMap_cons, List.flatMap_nil, cx1, cxc, X1.out, X2.out, X3.out, X4.out, Y1.out, H0]; rfl
      · unfold mkEnds; rw [if_neg e0, if_neg e1, if_neg e2]; rfl
      · unfold mkPoints; rw [if_neg e0, if_neg e1, if_neg e2]; rfl

theorem rmake_any {f l s m wt c st j cc : Nat} {A : Option Addr} {R : BS} {w : World} (hb : f < 256 ∧ l < 256 ∧ s < 256 ∧ m < 65536 ∧ wt < 65536 ∧ c < 256 ∧ st < 256 ∧ j < 256) :
    Calls Try.prog 27 #[.agg (dcs f l s m wt c st j A R.length cc)] w fun e w' => ∃ C, e = .returned (.agg C) ∧ LayW w.heap.size w' (mkL f l s m wt c st j []) C ∧ Fr No w w' ∧ Nil4 C :=
  (rmake_own hb).mono fun _ _ ⟨C, h1, h2, h3, h4, _⟩ => ⟨C, h1, h2, h3, h4⟩
end Go.Proofs.Ytfnlimcgoeknjaa
