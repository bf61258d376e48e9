import Derived.Test.YtfnlimcgoeknjaaRefN
import Derived.Test.YtfnlimcgoeknjaaDecL
import Derived.Test.YtfnlimcgoeknjaaOpenC
import Derived.LoopN
import Derived.Deep.CutBlock
namespace Go.Proofs.Ytfnlimcgoeknjaa
open Go.RowKit Go Fl

theorem run_neg_float {P : Program} (k : FloatKind) (b : Nat) (w : World) : (Op.unary .neg (.float k b)).run P w = .ok (.float k (Op.negFloat k b)) w := rfl
attribute [local go_sem] run_neg_float
set_option maxRecDepth 20000 in
theorem part_any (n : Nat) (hn : n < 4294967296) (w : World) : Calls Try.prog 63 #[.int .u64 (n : Int)] w fun e w' => e = .returned (.float .f64 (F (sx n))) ∧ w' = w := by
  by_cases h : 2147483648 ≤ n
  · have e1 : floatOfInt .f64 (4294967296 - (n : Int)) = F (4294967296 - (n : Int)) := nearest_F _ (by omega)
    have e2 : Op.negFloat .f64 (F (4294967296 - (n : Int))) = F (sx n) := by
      have h1 := (negI (isF (4294967296 - (n : Int))) (by omega)).F_ne (by omega)
      rw [h1]
      congr 1
      unfold sx
      rw [if_neg (by omega)]
      omega
    have hi : (2147483648 : Int) ≤ (n : Int) := by omega
    have hj : (n : Int) ≤ 4294967296 := by omega
    have j1 : IntKind.u64.wrap (4294967296 - (n : Int)) = 4294967296 - (n : Int) := by rw [IntKind.wrap_u64]; omega
    clear h hn
    go_enter Try.func63, Try.ntmps63
    go_wp2
    go_ret
    exact ⟨rfl, rfl⟩
  · have e1 : floatOfInt .f64 (n : Int) = F (n : Int) := nearest_F _ (by omega)
    have e2 : F (n : Int) = F (sx n) := by unfold sx; rw [if_pos (by omega)]
    rw [← e2]
    clear e2
    obtain ⟨x, hx⟩ : ∃ x : Int, (n : Int) = x := ⟨_, rfl⟩
    have h0 : 0 ≤ x := by omega
    have hi : x < 2147483648 := by omega
    have hj : ¬ 2147483648 ≤ x := by omega
    rw [hx] at e1 ⊢
    clear h hn hx
    go_enter Try.func63, Try.ntmps63
    go_wp2
    go_ret
    exact ⟨rfl, rfl⟩

def S2 (g r : Nat) : Nat → Prop := fun i => i = r ∨ i = g
theorem snoc_s2 {w w3 w5 : World} {g r : Nat} {P : Nat → Prop} {l : List UInt8} {s : Pl} {v2 v3 : Value} (hr : r < w.heap.size) (hg : g < w.heap.size) (hB : ∀ k, P k → k < w.heap.size) (N : New w v2) (R : InAt w3 r P l s) (F : Fr (S2 g r) w w3) {C : Obj} (hb : w3.heap[g]? = some C)
    (f5 : Fr (fun k => v2.ownBlock = some k) w3 w5) (a5 : v3.ownBlock = v2.ownBlock ∨ ∃ b, v3.ownBlock = some b ∧ w3.heap.size ≤ b) : New w v3 ∧ InAt w5 r P l s ∧ Fr (S2 g r) w w5 ∧ w5.heap[g]? = some C := by
  refine ⟨fun q hq => ?_, R.fr f5 (fun e => by have := N r e; omega) (fun k hk e2 => by have := N _ e2; have := hB k hk; omega), F.trans f5 (fun i hi => .inr (N i hi)), f5.heap hb (fun e => by have := N _ e; omega)⟩
  rcases a5 with e | ⟨b, e, hb⟩
  · rw [e] at hq; exact N q hq
  · rw [e] at hq; cases hq; exact Nat.le_trans F.size hb
theorem set_s2 {w w5 : World} {g r : Nat} {P : Nat → Prop} {l : List UInt8} {s : Pl} (hgr : g < r) (hP : ∀ k, P k → g < k) (R : InAt w5 r P l s) (F : Fr (S2 g r) w w5) {cs : Array Value} {t : TypeId} (hb : w5.heap[g]? = some (.cells cs t (0, 0))) (j : Nat) (v : Value) :
    InAt (w5.setCell ⟨g, j, none⟩ v) r P l s ∧ Fr (S2 g r) w (w5.setCell ⟨g, j, none⟩ v) ∧ (w5.setCell ⟨g, j, none⟩ v).heap[g]? = some (.cells (cs.setIfInBounds j v) t (0, 0)) ∧ Fr (fun k => k = g) w5 (w5.setCell ⟨g, j, none⟩ v) := by
  have f := (Fr.refl (fun k => k = g) w5).setCell (p := ⟨g, j, none⟩) (.inl rfl) v
  exact ⟨R.fr f (fun e => by have e2 : r = g := e; omega) (fun k hk e => by have e2 : k = g := e; have := hP k hk; omega), F.trans f (fun i hi => .inl (.inr hi)), blk_set hb j v, f⟩

theorem loop_end {wb w : World} {e : TypeId} {K k c r : Nat} {A : Option Addr} {xs : List Value} (HO : OwnK w e K (.slice A k c) k xs) (HN : New wb (.slice A k c)) (hr : r < wb.heap.size) : RdN (r + 1) w A K k xs := by
  obtain ⟨A', c', e, _, _, P⟩ := RdN.own HO HN
  injection e with e1 e2 e3
  subst e1
  exact P.mono hr

set_option maxRecDepth 100000 in
set_option maxHeartbeats 16000000 in
theorem rldecode_any {A : Option Addr} {c : Nat} {p : List UInt8} {w : World} (hl : Rd w A (bys p)) (hc : p.length ≤ c) (hlen : p.length ≤ 1000000) :
    Calls Try.prog 21 #[.slice A p.length c] w fun e w' => ∃ C, e = .returned (.tuple #[.agg C, .int .i64 (decAL p).2]) ∧ LayV w.heap.size w' (decAL p).1 C ∧ Fr No w w' := by
  have F0 := (((Fr.refl No w).alloc (.cells #[.slice none 0 0, .slice none 0 0, .slice none 0 0, .slice none 0 0, .slice none 0 0, .int .i64 0, .int .i64 0, .int .i64 0, .int .i64 0, .int .i64 0] 38)).alloc (.cells #[.slice none 0 0, .slice none 0 0, .slice none 0 0, .slice none 0 0, .slice none 0 0, .int .i64 0, .int .i64 0, .int .i64 0, .int .i64 0, .int .i64 0] 38)).alloc (.cells #[.slice none 0 0, .slice none 0 0, .slice none 0 0, .slice none 0 0, .slice none 0 0, .int .i64 0, .int .i64 0, .int .i64 0, .int .i64 0, .int .i64 0] 38)
  have B2 : (((w.alloc (.cells #[.slice none 0 0, .slice none 0 0, .slice none 0 0, .slice none 0 0, .slice none 0 0, .int .i64 0, .int .i64 0, .int .i64 0, .int .i64 0, .int .i64 0] 38)).alloc (.cells #[.slice none 0 0, .slice none 0 0, .slice none 0 0, .slice none 0 0, .slice none 0 0, .int .i64 0, .int .i64 0, .int .i64 0, .int .i64 0, .int .i64 0] 38)).alloc (.cells #[.slice none 0 0, .slice none 0 0, .slice none 0 0, .slice none 0 0, .slice none 0 0, .int .i64 0, .int .i64 0, .int .i64 0, .int .i64 0, .int .i64 0] 38)).heap[w.heap.size]? = some (.cells #[.slice none 0 0, .slice none 0 0, .slice none 0 0, .slice none 0 0, .slice none 0 0, .int .i64 0, .int .i64 0, .int .i64 0, .int .i64 0, .int .i64 0] 38 (0, 0)) := blk_alloc (blk_alloc (blk_new _ _) _) _
  have B4 : (((w.alloc (.cells #[.slice none 0 0, .slice none 0 0, .slice none 0 0, .slice none 0 0, .slice none 0 0, .int .i64 0, .int .i64 0, .int .i64 0, .int .i64 0, .int .i64 0] 38)).alloc (.cells #[.slice none 0 0, .slice none 0 0, .slice none 0 0, .slice none 0 0, .slice none 0 0, .int .i64 0, .int .i64 0, .int .i64 0, .int .i64 0, .int .i64 0] 38)).alloc (.cells #[.slice none 0 0, .slice none 0 0, .slice none 0 0, .slice none 0 0, .slice none 0 0, .int .i64 0, .int .i64 0, .int .i64 0, .int .i64 0, .int .i64 0] 38)).heap[(w.alloc (.cells #[.slice none 0 0, .slice none 0 0, .slice none 0 0, .slice none 0 0, .slice none 0 0, .int .i64 0, .int .i64 0, .int .i64 0, .int .i64 0, .int .i64 0] 38)).heap.size]? = some (.cells #[.slice none 0 0, .slice none 0 0, .slice none 0 0, .slice none 0 0, .slice none 0 0, .int .i64 0, .int .i64 0, .int .i64 0, .int .i64 0, .int .i64 0] 38 (0, 0)) := blk_alloc (blk_new _ _) _
  have B5 : (((w.alloc (.cells #[.slice none 0 0, .slice none 0 0, .slice none 0 0, .slice none 0 0, .slice none 0 0, .int .i64 0, .int .i64 0, .int .i64 0, .int .i64 0, .int .i64 0] 38)).alloc (.cells #[.slice none 0 0, .slice none 0 0, .slice none 0 0, .slice none 0 0, .slice none 0 0, .int .i64 0, .int .i64 0, .int .i64 0, .int .i64 0, .int .i64 0] 38)).alloc (.cells #[.slice none 0 0, .slice none 0 0, .slice none 0 0, .slice none 0 0, .slice none 0 0, .int .i64 0, .int .i64 0, .int .i64 0, .int .i64 0, .int .i64 0] 38)).heap[((w.alloc (.cells #[.slice none 0 0, .slice none 0 0, .slice none 0 0, .slice none 0 0, .slice none 0 0, .int .i64 0, .int .i64 0, .int .i64 0, .int .i64 0, .int .i64 0] 38)).alloc (.cells #[.slice none 0 0, .slice none 0 0, .slice none 0 0, .slice none 0 0, .slice none 0 0, .int .i64 0, .int .i64 0, .int .i64 0, .int .i64 0, .int .i64 0] 38)).heap.size]? = some (.cells #[.slice none 0 0, .slice none 0 0, .slice none 0 0, .slice none 0 0, .slice none 0 0, .int .i64 0, .int .i64 0, .int .i64 0, .int .i64 0, .int .i64 0] 38 (0, 0)) := blk_new _ _
  have HO := Lib.hid (refOpen_cap (hl.no F0) hc (by omega))
  obtain ⟨g, hg⟩ : ∃ g, w.heap.size = g := ⟨_, rfl⟩
  have e4 : (w.alloc (.cells #[.slice none 0 0, .slice none 0 0, .slice none 0 0, .slice none 0 0, .slice none 0 0, .int .i64 0, .int .i64 0, .int .i64 0, .int .i64 0, .int .i64 0] 38)).heap.size = g + 1 := by simp [hg]
  have e5 : ((w.alloc (.cells #[.slice none 0 0, .slice none 0 0, .slice none 0 0, .slice none 0 0, .slice none 0 0, .int .i64 0, .int .i64 0, .int .i64 0, .int .i64 0, .int .i64 0] 38)).alloc (.cells #[.slice none 0 0, .slice none 0 0, .slice none 0 0, .slice none 0 0, .slice none 0 0, .int .i64 0, .int .i64 0, .int .i64 0, .int .i64 0, .int .i64 0] 38)).heap.size = g + 2 := by simp [hg]
  rw [hg] at B2
  rw [e4] at B4
  rw [e5] at B5
  have HB2 := Lib.hid B2
  have HB4 := Lib.hid B4
  have HB5 := Lib.hid B5
  have HF := Lib.hid F0
  have hgw : Hid (w.heap.size ≤ g) := by show w.heap.size ≤ g; omega
  have hbl := Lib.hid (show (body p).length ≤ p.length by unfold body; split <;> simp)
  clear hl B2 B4 B5 F0 e4 e5
  go_enter Try.func21, Try.ntmps21
  go_wp2_with fail
  (try rw [show g + 1 + 1 = g + 2 from rfl])
  refine HO.out.mono ?_
  rintro e w1 ⟨Q, cq, rfl, R, F1, HCQ⟩
  replace R := R.no F1
  replace HB2 := Lib.hid (F1.heap HB2.out (fun k => k))
  replace HB4 := Lib.hid (F1.heap HB4.out (fun k => k))
  replace HB5 := Lib.hid (F1.heap HB5.out (fun k => k))
  replace HF := Lib.hid (HF.out.trans F1 (fun _ k => k.elim))
  by_cases h0 : code p = 0
  · obtain ⟨q, hq⟩ : ∃ q, body p = q := ⟨_, rfl⟩
    rw [hq] at R HCQ hbl ⊢
    rw [h0]
    by_cases h2 : q.length < 2
    · have hD : Hid (decAL p = (lnone, 2)) := by
        show decAL p = _
        unfold decAL
        rw [if_pos h0, hq, if_neg (by
          intro e
          have := congrArg List.length e
          simp at this
          omega)]
      clear R F1 HO hq h0
      go_wp2_with (first | (refine wpList_load_row rfl 38 (.tmp 4) rfl (g + 1) rfl 38 _ (0, 0) _ HB4.out Try.underlying38 rfl (by kernel_rfl) ?_) | (refine wpList_store_row rfl 38 (.tmp 2) (.tmp 44) rfl g #[.slice none 0 0, .slice none 0 0, .slice none 0 0, .slice none 0 0, .slice none 0 0, .int .i64 0, .int .i64 0, .int .i64 0, .int .i64 0, .int .i64 0] rfl rfl 38 _ HB2.out (by kernel_rfl) (by simp) (by simp [Value.oneCell']) ?_))
      refine bodyPost_ret (results_cell2 rfl _ _ _ g _ rfl (run_loadVar_row _ g _ _ _ _ _ (setRow_heap _ g _ _ _ _ HB2.out) Try.underlying38 rfl (by kernel_rfl))) rfl ?_
      exact ⟨lz, by rw [hD.out]; rfl, by rw [hD.out]; exact LayV.zero _ _, HF.out.row (.inr hgw.out)⟩
    · obtain ⟨ad, rfl, d0⟩ := R.byte (j := 0) (by omega)
      obtain ⟨ad', e', d1⟩ := R.byte (j := 1) (by omega)
      injection e' with e'
      subst e'
      obtain ⟨n0, hn0⟩ : ∃ n0 : Nat, (q.getD 0 0).toNat = n0 := ⟨_, rfl⟩
      obtain ⟨n1, hn1⟩ : ∃ n1 : Nat, (q.getD 1 0).toNat = n1 := ⟨_, rfl⟩
      have hq2 : q.take 2 = [q.getD 0 0, q.getD 1 0] := by
        match q, h2 with
        | [], h2 => simp at h2
        | [_], h2 => simp at h2
        | x :: y :: r, _ => rfl
      have dz : w1.cell? ad = some (.int .u8 ((q.getD 0 0).toNat : Int)) := d0
      rw [hn0] at d0 dz
      rw [hn1] at d1
      have d1' : w1.cell? ⟨ad.block, ad.off + 1, none⟩ = some (.int .u8 (n1 : Int)) := d1
      clear d1
      have d1 := d1'
      clear d1'
      have hL : (2 : Int) ≤ (q.length : Int) := by omega
      have hL0 : (0 : Int) < (q.length : Int) := by omega
      have hL1 : (1 : Int) < (q.length : Int) := by omega
      by_cases hBL : n0 = 66 ∧ n1 = 76
      · obtain ⟨rfl, rfl⟩ := hBL
        have hb0 : q.getD 0 0 = 66 := UInt8.toNat.inj hn0
        have hb1 : q.getD 1 0 = 76 := UInt8.toNat.inj hn1
        rw [hb0, hb1] at hq2
        obtain ⟨l, hlq⟩ : ∃ l, q.drop 2 = l := ⟨_, rfl⟩
        have hD : Hid (decAL p = ((decL l).1, ((decL l).2 : Int))) := by show decAL p = _; unfold decAL; rw [if_pos h0, hq, if_pos hq2, hlq]
        have hll : l.length ≤ 1000000 := by rw [← hlq, List.length_drop]; have := hbl.out; omega
        obtain ⟨n, hn⟩ : ∃ n, l.length = n := ⟨_, rfl⟩
        have hqn : q.length = n + 2 := by rw [← hn, ← hlq, List.length_drop]; omega
        obtain ⟨m, hm⟩ : ∃ m, cq = m + 2 := ⟨cq - 2, by have := HCQ.out; omega⟩
        subst hm
        have hnm : n ≤ m := by have := HCQ.out; omega
        have RL : ∃ a2 : Addr, (if m = 0 then a2 = ad else a2 = ⟨ad.block, ad.off + 2, none⟩) ∧ Rd w1 (some a2) (bys l) := by
          by_cases hm : m = 0
          · have : l = [] := List.eq_nil_of_length_eq_zero (by omega)
            exact ⟨ad, by rw [if_pos hm], by rw [this]; exact Rd.nil _ _⟩
          · refine ⟨⟨ad.block, ad.off + 2, none⟩, by rw [if_neg hm], ?_⟩
            show Rd w1 (some (ad.add 2)) _
            have := Rd.drop' R 2
            rwa [hlq] at this
        obtain ⟨a2, ha2, RL2⟩ := RL
        have HOF := Lib.hid (refOf_any (c := m) RL2 (by omega))
        rw [hn] at HOF
        rw [hqn]
        have HNl := Lib.hid hn
        rw [hqn] at hL hL0 hL1
        clear R F1 HO hq h0 h2 hq2 hlq hqn RL2 hn hb0 hb1 hn0 hn1 HCQ hbl hll
        go_upto_region 7 with (fail)
        go_cut [8] (fun p8 wc => ∃ r, p8 = .pointer (some ⟨r, 0, none⟩) ∧ Hid (InAt wc r (fun k => g + 3 ≤ k ∧ k < r) l (0, false) ∧ wc.heap[g]? = some (.cells #[.slice none 0 0, .slice none 0 0, .slice none 0 0, .slice none 0 0, .slice none 0 0, .int .i64 0, .int .i64 0, .int .i64 0, .int .i64 0, .int .i64 0] 38 (0, 0)) ∧ wc.heap[g + 1]? = some (.cells #[.slice none 0 0, .slice none 0 0, .slice none 0 0, .slice none 0 0, .slice none 0 0, .int .i64 0, .int .i64 0, .int .i64 0, .int .i64 0, .int .i64 0] 38 (0, 0)) ∧ wc.heap[g + 2]? = some (.cells #[.slice none 0 0, .slice none 0 0, .slice none 0 0, .slice none 0 0, .slice none 0 0, .int .i64 0, .int .i64 0, .int .i64 0, .int .i64 0, .int .i64 0] 38 (0, 0)) ∧ Fr No w wc ∧ g + 3 ≤ r ∧ r < wc.heap.size))
        case first =>
          clear d0 d1 dz
          rcases Nat.eq_zero_or_pos m with rfl | hm
          all_goals
            (first
              | (rw [if_pos rfl] at ha2; obtain rfl := ha2; obtain rfl : n = 0 := (by omega))
              | (rw [if_neg (Nat.ne_of_gt hm)] at ha2; obtain rfl := ha2))
            go_wp2_with fail
            refine HOF.out.mono ?_
            rintro e w3 ⟨v3, rfl, O3, N3, F3⟩
            obtain ⟨C, c3, rfl, hCc, hC, R3⟩ := O3.shape
            have hnil : C = none → c3 = 0 := by
              obtain ⟨A4, c4, e, h4, _, _⟩ := O3.shape2
              injection e with e1 _ e2
              subst e1 e2
              exact h4
            have hcsm : c3 ≤ 9223372036854775807 := by
              rcases O3.2 with ⟨h1, _⟩ | ⟨g', cap, cur, h1, _, _, _, hm, _⟩
              · injection h1 with _ _ h3; omega
              · injection h1 with _ _ h3
                simp only [maxLen] at hm
                omega
            rw [bls_length] at hCc ⊢
            have hg5 := blk_lt HB5.out
            have hCn : ∀ ad, C = some ad → g + 3 ≤ ad.block := fun ad e => by have := N3 _ (hC ad e); omega
            have hClt : ∀ ad, C = some ad → ad.block < w3.heap.size := fun ad e => O3.lt (hC ad e)
            obtain ⟨Z3, hZ3⟩ : ∃ Z3, Obj.cells #[.slice C (ofBytes l).length c3, .bool false] 104 = Z3 := ⟨_, rfl⟩
            have hr3 : g + 2 < w3.heap.size := Nat.lt_of_lt_of_le hg5 F3.size
            have I0 : InAt (w3.alloc Z3) w3.heap.size (fun k => g + 3 ≤ k ∧ k < w3.heap.size) l (0, false) :=
              ⟨C, c3, ofBytes l, ⟨by rw [← hZ3]; exact blk_new _ _, R3.no ((Fr.refl No w3).alloc _), hCc, hnil, fun ad e => by have := hClt ad e; omega, hcsm⟩, by unfold Both; simp, fun ad e => ⟨hCn ad e, hClt ad e⟩⟩
            have F3' := F3.alloc Z3
            have HK : Hid (InAt (w3.alloc Z3) w3.heap.size (fun k => g + 3 ≤ k ∧ k < w3.heap.size) l (0, false) ∧ (w3.alloc Z3).heap[g]? = some (.cells #[.slice none 0 0, .slice none 0 0, .slice none 0 0, .slice none 0 0, .slice none 0 0, .int .i64 0, .int .i64 0, .int .i64 0, .int .i64 0, .int .i64 0] 38 (0, 0)) ∧ (w3.alloc Z3).heap[g + 1]? = some (.cells #[.slice none 0 0, .slice none 0 0, .slice none 0 0, .slice none 0 0, .slice none 0 0, .int .i64 0, .int .i64 0, .int .i64 0, .int .i64 0, .int .i64 0] 38 (0, 0)) ∧ (w3.alloc Z3).heap[g + 2]? = some (.cells #[.slice none 0 0, .slice none 0 0, .slice none 0 0, .slice none 0 0, .slice none 0 0, .int .i64 0, .int .i64 0, .int .i64 0, .int .i64 0, .int .i64 0] 38 (0, 0)) ∧ Fr No w (w3.alloc Z3) ∧ g + 3 ≤ w3.heap.size ∧ w3.heap.size < (w3.alloc Z3).heap.size) :=
              ⟨I0, F3'.heap HB2.out (fun k => k), F3'.heap HB4.out (fun k => k), F3'.heap HB5.out (fun k => k), HF.out.trans F3' (fun _ k => k.elim), by omega, by simp⟩
            rw [← hZ3] at HK
            clear hZ3 O3 N3 F3 F3' R3 hnil hCc hCn hClt hC hcsm I0 HOF hg5 hr3
            go_wp2
            go_meet
            case rel => exact ⟨w3.heap.size, rfl, HK⟩
        case rest =>
          obtain ⟨r, rfl, HK⟩ := hcut
          clear HOF ha2 hnm HB2 HB4 HB5 HF d0 d1 dz hL hL0 hL1
          obtain ⟨ki, kb, kb4, kb5, kf, kgr, krl⟩ := HK.out
          have HI := Lib.hid ki
          have HB2 := Lib.hid kb
          have HB4 := Lib.hid kb4
          have HB5 := Lib.hid kb5
          have HF := Lib.hid kf
          have hgr : Hid (g + 3 ≤ r) := kgr
          have hrl : Hid (r < wc.heap.size) := krl
          have hr2 : Hid (¬ RS r g ∧ ¬ RS r (g + 1) ∧ ¬ RS r (g + 2)) := ⟨fun e => by have e2 : g = r := e; omega, fun e => by have e2 : g + 1 = r := e; omega, fun e => by have e2 : g + 2 = r := e; omega⟩
          have hs2 : Hid (¬ S2 (g + 2) r g ∧ ¬ S2 (g + 2) r (g + 1)) := ⟨fun e => by rcases e with e | e <;> omega, fun e => by rcases e with e | e <;> omega⟩
          have hgw2 : Hid (w.heap.size ≤ g + 2) := Nat.le_trans hgw.out (by omega)
          have hwr : Hid (w.heap.size ≤ r) := Nat.le_trans hgw.out (by omega)
          clear HK ki kb kb4 kb5 kf kgr krl
          -- list 0
          have HG := Lib.hid (iget8 HI.out)
          have nlt := gt_lt l (0, false) 8
          obtain ⟨n1, hn1⟩ : ∃ n, gt l (0, false) 8 = n := ⟨_, rfl⟩
          obtain ⟨s1, hs1⟩ : ∃ s, nx l (0, false) 8 = s := ⟨_, rfl⟩
          have Hq1 : Hid (q1 l = itS (cxN l) s1 n1 ∧ liL (cxV l) (cxN l) l (0, false) = itL (cxV l) (cxN l) s1 n1) := by rw [← hn1, ← hs1]; exact ⟨rfl, rfl⟩
          rw [hn1, hs1] at HG
          rw [hn1] at nlt
          have i1 : IntKind.i64.wrap (n1 : Int) = (n1 : Int) := by rw [IntKind.wrap_i64]; omega
          clear hn1 hs1
          go_wp2_with fail
          refine HG.out.mono ?_
          rintro e wb1 ⟨rfl, R, F⟩
          replace HB2 := Lib.hid (F.heap HB2.out hr2.out.1)
          replace HB4 := Lib.hid (F.heap HB4.out hr2.out.2.1)
          replace HF := Lib.hid (HF.out.trans F (fun i hi => .inr (by rw [show i = r from hi]; exact hwr.out)))
          replace HB5 := Lib.hid (F.heap HB5.out hr2.out.2.2)
          replace HI := Lib.hid R
          replace hrl := Lib.hid (Nat.lt_of_lt_of_le hrl.out F.size)
          clear R F HG
          go_upto_block 0 with (fail)
          clear i1
          go_cut [] (fun wc => ∃ (A1 : Option Addr) (c1 : Nat) (x1 : List _), Hid (wc.heap[g + 2]? = some (.cells #[.slice A1 x1.length c1, .slice none 0 0, .slice none 0 0, .slice none 0 0, .slice none 0 0, .int .i64 0, .int .i64 0, .int .i64 0, .int .i64 0, .int .i64 0] 38 (0, 0))) ∧ Hid (RdN (r + 1) wc A1 1 x1.length (x1.flatMap cx1)) ∧ Hid (InAt wc r (fun k => g + 3 ≤ k ∧ k < r) l (q1 l)) ∧ Hid (Fr (S2 (g + 2) r) wb1 wc) ∧ Hid ((q1 l).2 = false → x1 = liL (cxV l) (cxN l) l (0, false)))
          case first =>
            have hPb : Hid (∀ k, (g + 3 ≤ k ∧ k < r) → k < wb1.heap.size) := fun k hk => by have := hrl.out; have := hk.2; omega
            have hgb : Hid (g + 2 < wb1.heap.size) := by show g + 2 < wb1.heap.size; have := hrl.out; have := hgr.out; omega
            go_wp2
            go_loopg [10] n1 (fun gk i wr => ∃ (k : Nat) (A : Option Addr) (c : Nat), k + gk = n1 ∧ i = .int .i64 (k : Int) ∧ Hid (wr.heap[g + 2]? = some (.cells #[.slice A k c, .slice none 0 0, .slice none 0 0, .slice none 0 0, .slice none 0 0, .int .i64 0, .int .i64 0, .int .i64 0, .int .i64 0, .int .i64 0] 38 (0, 0))) ∧ Hid (OwnK wr 45 1 (.slice A k c) k ((itL (cxV l) (cxN l) s1 k).flatMap cx1)) ∧ Hid (New wb1 (.slice A k c)) ∧ Hid (InAt wr r (fun k => g + 3 ≤ k ∧ k < r) l (itS (cxN l) s1 k)) ∧ Hid (Fr (S2 (g + 2) r) wb1 wr))
            case atStart => exact ⟨0, none, 0, by omega, rfl, HB5, OwnK.nil _ _ _, (fun k e => by simp [Value.ownBlock] at e), HI, Fr.refl _ _⟩
            case round =>
              obtain ⟨k, A, c, hk, rfl, HX, HO, HN, HR, HFr⟩ := hrel
              clear HI HB5
              have cf := HR.out.failed
              by_cases hkn : k < n1
              · have hki : (k : Int) < (n1 : Int) := by omega
                obtain ⟨b, hb⟩ : ∃ b, (itS (cxN l) s1 k).2 = b := ⟨_, rfl⟩
                rw [hb] at cf
                have HB := Lib.hid hb
                have q0 : wr.cell? ⟨g + 2, 0, none⟩ = some (.slice A k c) := by rw [blk_cell HX.out]; rfl
                cases b with
                | true =>
                  have hst := itS_stop (cxN_stops l) HB.out gk
                  rw [hk] at hst
                  have HST := Lib.hid hst
                  clear hb hst q0
                  go_wp2
                  go_meet
                  case rel => exact ⟨A, c, itL (cxV l) (cxN l) s1 k, Lib.hid (by rw [itL_length]; exact HX.out), Lib.hid (by rw [itL_length]; exact loop_end HO.out HN.out hrl.out), Lib.hid (by rw [Hq1.out.1, HST.out]; exact HR.out), HFr, Lib.hid (fun hx => by rw [Hq1.out.1, HST.out, HB.out] at hx; cases hx)⟩
                | false =>
                  clear hb
                  obtain ⟨sk, hsk⟩ : ∃ s, itS (cxN l) s1 k = s := ⟨_, rfl⟩
                  have hsu : Hid (itS (cxN l) s1 (k + 1) = cxN l sk) := by rw [← hsk]; rfl
                  have hfl := Lib.hid (itL_flat (cxV l) (cxN l) s1 cx1 k)
                  rw [hsk] at HR hfl
                  clear hsk
                  obtain ⟨y0, hy0⟩ : ∃ y, gt l sk 32 = y := ⟨_, rfl⟩
                  have ylt0 := gt_lt l sk 32
                  rw [hy0] at ylt0
                  obtain ⟨y1, hy1⟩ : ∃ y, gt l (nx l sk 32) 32 = y := ⟨_, rfl⟩
                  have ylt1 := gt_lt l (nx l sk 32) 32
                  rw [hy1] at ylt1
                  have hV : Hid (cxV l sk = (sx y0, sx y1) ∧ cxN l sk = (nx l (nx l sk 32) 32)) := by rw [← hy0, ← hy1]; exact ⟨rfl, rfl⟩
                  have Hy0 := Lib.hid hy0
                  have Hy1 := Lib.hid hy1
                  clear hy0 hy1
                  have HFa : Hid (Fr (RS r) wr wr) := Fr.refl _ _
                  have HRa := Lib.hid HR.out
                  have HG := Lib.hid (iget_at HRa.out 32 32 rfl (by omega))
                  rw [Hy0.out] at HG
                  go_wp2_with fail
                  refine HG.out.mono ?_
                  rintro e u0 ⟨rfl, Ra, Fa⟩
                  replace HRa := Lib.hid Ra
                  replace HFa := Lib.hid (HFa.out.trans Fa (fun _ k => .inl k))
                  clear Ra Fa HG cf q0
                  have HPt := Lib.hid (part_any y0 ylt0 u0)
                  go_wp2_with fail
                  refine HPt.out.mono ?_
                  rintro e u0b ⟨rfl, rfl⟩
                  clear HPt
                  have HG := Lib.hid (iget_at HRa.out 32 32 rfl (by omega))
                  rw [Hy1.out] at HG
                  go_wp2_with fail
                  refine HG.out.mono ?_
                  rintro e u1 ⟨rfl, Ra, Fa⟩
                  replace HRa := Lib.hid Ra
                  replace HFa := Lib.hid (HFa.out.trans Fa (fun _ k => .inl k))
                  clear Ra Fa HG
                  have HPt := Lib.hid (part_any y1 ylt1 u1)
                  go_wp2_with fail
                  refine HPt.out.mono ?_
                  rintro e u1b ⟨rfl, rfl⟩
                  clear HPt
                  have bX := HFa.out.heap HX.out hr2.out.2.2
                  have HbX := Lib.hid bX
                  have q1 : u1b.cell? ⟨g + 2, 0, none⟩ = some (.slice A k c) := by rw [blk_cell bX]; rfl
                  have HO5 := Lib.hid (HO.out.fr HFa.out (fun q hq e => by have e2 : q = r := e; have := HN.out q hq; have := hrl.out; omega))
                  have HF5 := Lib.hid (HFr.out.trans HFa.out (fun i hi => .inl (.inl hi)))
                  clear bX
                  go_wp2_with (at_builtin; go_loud (refine own_append_k rfl (.tmp 72) (.tmp 76) 33 45 (.complex .f64 0 0) 1 16 rfl Try.underlying33 infoC rfl (by decide) (by decide) _ k ((itL (cxV l) (cxN l) s1 k).flatMap cx1) _ _ rfl rfl rfl rfl (by simp [Value.oneCell']) HO5.out (by omega) ?_))
                  intro v6 w6 o6 f6 a6
                  obtain ⟨N6, R6, F6, b6⟩ := snoc_s2 hrl.out hgb.out hPb.out HN.out HRa.out HF5.out HbX.out f6 a6
                  obtain ⟨A6, c6, rfl, _, _, _, _⟩ := o6.shape
                  have q2 : w6.cell? ⟨g + 2, 0, none⟩ = some (.slice A k c) := by rw [blk_cell b6]; rfl
                  have z2 := blk_free b6 0
                  obtain ⟨R7, F7, b7, f7⟩ := set_s2 (by have := hgr.out; omega) (fun k hk => by have := hk.1; omega) R6 F6 b6 0 (.slice A6 (k + 1) c6)
                  have O7 := o6.fr f7 (fun q hq e => by have e2 : q = g + 2 := e; have := N6 q hq; have := hgb.out; omega)
                  have O8 : OwnK (w6.setCell ⟨g + 2, 0, none⟩ (.slice A6 (k + 1) c6)) 45 1 (.slice A6 (k + 1) c6) (k + 1) ((itL (cxV l) (cxN l) s1 (k + 1)).flatMap cx1) := by rw [hfl.out, hV.out.1]; exact O7
                  have R8 : InAt (w6.setCell ⟨g + 2, 0, none⟩ (.slice A6 (k + 1) c6)) r (fun k => g + 3 ≤ k ∧ k < r) l (itS (cxN l) s1 (k + 1)) := by rw [hsu.out, hV.out.2]; exact R7
                  obtain ⟨w7, hw7⟩ : ∃ W, w6.setCell ⟨g + 2, 0, none⟩ (.slice A6 (k + 1) c6) = W := ⟨_, rfl⟩
                  rw [hw7] at O8 R8 F7 b7
                  have H1 := Lib.hid O8
                  have H2 := Lib.hid R8
                  have H3 := Lib.hid F7
                  have H4 : Hid (w7.heap[g + 2]? = some (.cells #[.slice A6 (k + 1) c6, .slice none 0 0, .slice none 0 0, .slice none 0 0, .slice none 0 0, .int .i64 0, .int .i64 0, .int .i64 0, .int .i64 0, .int .i64 0] 38 (0, 0))) := b7
                  have H5 := Lib.hid N6
                  clear o6 f6 a6 N6 R6 F6 b6 R7 F7 b7 f7 O7 O8 R8 HO5 HF5 HbX HRa HFa q1
                  go_wp2
                  go_roundg (n1 - (k + 1))
                  case measure => omega
                  case rel => exact ⟨k + 1, A6, c6, by omega, by go_num, H4, H1, H5, H2, H3⟩
              · have hkn2 : k = n1 := by omega
                have hkx : ¬ (k : Int) < (n1 : Int) := by omega
                have HKN := Lib.hid hkn2
                clear cf hkn2 hkn
                go_wp2
                go_meet
                case rel => exact ⟨A, c, itL (cxV l) (cxN l) s1 k, Lib.hid (by rw [itL_length]; exact HX.out), Lib.hid (by rw [itL_length]; exact loop_end HO.out HN.out hrl.out), Lib.hid (by rw [Hq1.out.1, ← HKN.out]; exact HR.out), HFr, Lib.hid (fun _ => by rw [Hq1.out.2, ← HKN.out])⟩
          case rest =>
            obtain ⟨A1, c1, x1, HB6, HP1, HI2, HFz, HE1⟩ := hcut
            replace HB2 := Lib.hid (HFz.out.heap HB2.out hs2.out.1)
            replace HB4 := Lib.hid (HFz.out.heap HB4.out hs2.out.2)
            replace HF := Lib.hid (HF.out.trans HFz.out (fun i hi => .inr (by rcases hi with e | e <;> rw [e] <;> first | exact hwr.out | exact hgw2.out)))
            replace hrl := Lib.hid (Nat.lt_of_lt_of_le hrl.out HFz.out.size)
            clear HI HB5 Hq1 nlt
            have HI := Lib.hid HI2.out
            have HB5 := Lib.hid HB6.out
            obtain ⟨wd1, hwd1⟩ : ∃ W, wc = W := ⟨_, rfl⟩
            subst hwd1
            clear HI2 HB6 HFz
            -- list 1
            have HG := Lib.hid (iget8 HI.out)
            have nlt := gt_lt l (q1 l) 8
            obtain ⟨n2, hn2⟩ : ∃ n, gt l (q1 l) 8 = n := ⟨_, rfl⟩
            obtain ⟨s2, hs2⟩ : ∃ s, nx l (q1 l) 8 = s := ⟨_, rfl⟩
            have Hq2 : Hid (q2 l = itS (seN l) s2 n2 ∧ liL (seV l) (seN l) l (q1 l) = itL (seV l) (seN l) s2 n2) := by rw [← hn2, ← hs2]; exact ⟨rfl, rfl⟩
            rw [hn2, hs2] at HG
            rw [hn2] at nlt
            have i1 : IntKind.i64.wrap (n2 : Int) = (n2 : Int) := by rw [IntKind.wrap_i64]; omega
            clear hn2 hs2
            go_wp2_with fail
            refine HG.out.mono ?_
            rintro e wb2 ⟨rfl, R, F⟩
            replace HB2 := Lib.hid (F.heap HB2.out hr2.out.1)
            replace HB4 := Lib.hid (F.heap HB4.out hr2.out.2.1)
            replace HF := Lib.hid (HF.out.trans F (fun i hi => .inr (by rw [show i = r from hi]; exact hwr.out)))
            replace HP1 := Lib.hid (HP1.out.fr F (fun k hk e => by have e2 : k = r := e; omega))
            replace HB5 := Lib.hid (F.heap HB5.out hr2.out.2.2)
            replace HI := Lib.hid R
            replace hrl := Lib.hid (Nat.lt_of_lt_of_le hrl.out F.size)
            clear R F HG
            go_upto_block 2 with (fail)
            clear i1
            go_cut [] (fun wc => ∃ (A2 : Option Addr) (c2 : Nat) (x2 : List _), Hid (wc.heap[g + 2]? = some (.cells #[.slice A1 x1.length c1, .slice A2 x2.length c2, .slice none 0 0, .slice none 0 0, .slice none 0 0, .int .i64 0, .int .i64 0, .int .i64 0, .int .i64 0, .int .i64 0] 38 (0, 0))) ∧ Hid (RdN (r + 1) wc A2 3 x2.length (x2.flatMap sec)) ∧ Hid (InAt wc r (fun k => g + 3 ≤ k ∧ k < r) l (q2 l)) ∧ Hid (Fr (S2 (g + 2) r) wb2 wc) ∧ Hid ((q2 l).2 = false → x2 = liL (seV l) (seN l) l (q1 l)))
            case first =>
              have hPb : Hid (∀ k, (g + 3 ≤ k ∧ k < r) → k < wb2.heap.size) := fun k hk => by have := hrl.out; have := hk.2; omega
              have hgb : Hid (g + 2 < wb2.heap.size) := by show g + 2 < wb2.heap.size; have := hrl.out; have := hgr.out; omega
              go_wp2
              go_loopg [13] n2 (fun gk i wr => ∃ (k : Nat) (A : Option Addr) (c : Nat), k + gk = n2 ∧ i = .int .i64 (k : Int) ∧ Hid (wr.heap[g + 2]? = some (.cells #[.slice A1 x1.length c1, .slice A k c, .slice none 0 0, .slice none 0 0, .slice none 0 0, .int .i64 0, .int .i64 0, .int .i64 0, .int .i64 0, .int .i64 0] 38 (0, 0))) ∧ Hid (OwnK wr 48 3 (.slice A k c) k ((itL (seV l) (seN l) s2 k).flatMap sec)) ∧ Hid (New wb2 (.slice A k c)) ∧ Hid (InAt wr r (fun k => g + 3 ≤ k ∧ k < r) l (itS (seN l) s2 k)) ∧ Hid (Fr (S2 (g + 2) r) wb2 wr))
              case atStart => exact ⟨0, none, 0, by omega, rfl, HB5, OwnK.nil _ _ _, (fun k e => by simp [Value.ownBlock] at e), HI, Fr.refl _ _⟩
              case round =>
                obtain ⟨k, A, c, hk, rfl, HX, HO, HN, HR, HFr⟩ := hrel
                clear HI HB5
                have cf := HR.out.failed
                by_cases hkn : k < n2
                · have hki : (k : Int) < (n2 : Int) := by omega
                  obtain ⟨b, hb⟩ : ∃ b, (itS (seN l) s2 k).2 = b := ⟨_, rfl⟩
                  rw [hb] at cf
                  have HB := Lib.hid hb
                  have q0 : wr.cell? ⟨g + 2, 1, none⟩ = some (.slice A k c) := by rw [blk_cell HX.out]; rfl
                  cases b with
                  | true =>
                    have hst := itS_stop (seN_stops l) HB.out gk
                    rw [hk] at hst
                    have HST := Lib.hid hst
                    clear hb hst q0
                    go_wp2
                    go_meet
                    case rel => exact ⟨A, c, itL (seV l) (seN l) s2 k, Lib.hid (by rw [itL_length]; exact HX.out), Lib.hid (by rw [itL_length]; exact loop_end HO.out HN.out hrl.out), Lib.hid (by rw [Hq2.out.1, HST.out]; exact HR.out), HFr, Lib.hid (fun hx => by rw [Hq2.out.1, HST.out, HB.out] at hx; cases hx)⟩
                  | false =>
                    clear hb
                    obtain ⟨sk, hsk⟩ : ∃ s, itS (seN l) s2 k = s := ⟨_, rfl⟩
                    have hsu : Hid (itS (seN l) s2 (k + 1) = seN l sk) := by rw [← hsk]; rfl
                    have hfl := Lib.hid (itL_flat (seV l) (seN l) s2 sec k)
                    rw [hsk] at HR hfl
                    clear hsk
                    obtain ⟨y0, hy0⟩ : ∃ y, gt l sk 16 = y := ⟨_, rfl⟩
                    have ylt0 := gt_lt l sk 16
                    rw [hy0] at ylt0
                    obtain ⟨y1, hy1⟩ : ∃ y, gt l (nx l sk 16) 8 = y := ⟨_, rfl⟩
                    have ylt1 := gt_lt l (nx l sk 16) 8
                    rw [hy1] at ylt1
                    obtain ⟨y2, hy2⟩ : ∃ y, gt l (nx l (nx l sk 16) 8) 8 = y := ⟨_, rfl⟩
                    have ylt2 := gt_lt l (nx l (nx l sk 16) 8) 8
                    rw [hy2] at ylt2
                    have hV : Hid (seV l sk = (y0, y1, y2) ∧ seN l sk = (nx l (nx l (nx l sk 16) 8) 8)) := by rw [← hy0, ← hy1, ← hy2]; exact ⟨rfl, rfl⟩
                    have Hy0 := Lib.hid hy0
                    have j0 : IntKind.i64.wrap (y0 : Int) = (y0 : Int) := by rw [IntKind.wrap_i64]; omega
                    have Hy1 := Lib.hid hy1
                    have j1 : IntKind.i64.wrap (y1 : Int) = (y1 : Int) := by rw [IntKind.wrap_i64]; omega
                    have Hy2 := Lib.hid hy2
                    have j2 : IntKind.i64.wrap (y2 : Int) = (y2 : Int) := by rw [IntKind.wrap_i64]; omega
                    clear hy0 hy1 hy2
                    have HFa : Hid (Fr (RS r) wr wr) := Fr.refl _ _
                    have HRa := Lib.hid HR.out
                    have HG := Lib.hid (iget_at HRa.out 16 16 rfl (by omega))
                    rw [Hy0.out] at HG
                    go_wp2_with fail
                    refine HG.out.mono ?_
                    rintro e u0 ⟨rfl, Ra, Fa⟩
                    replace HRa := Lib.hid Ra
                    replace HFa := Lib.hid (HFa.out.trans Fa (fun _ k => .inl k))
                    clear Ra Fa HG cf q0
                    have HG := Lib.hid (iget_at HRa.out 8 8 rfl (by omega))
                    rw [Hy1.out] at HG
                    go_wp2_with fail
                    refine HG.out.mono ?_
                    rintro e u1 ⟨rfl, Ra, Fa⟩
                    replace HRa := Lib.hid Ra
                    replace HFa := Lib.hid (HFa.out.trans Fa (fun _ k => .inl k))
                    clear Ra Fa HG
                    have HG := Lib.hid (iget_at HRa.out 8 8 rfl (by omega))
                    rw [Hy2.out] at HG
                    go_wp2_with fail
                    refine HG.out.mono ?_
                    rintro e u2 ⟨rfl, Ra, Fa⟩
                    replace HRa := Lib.hid Ra
                    replace HFa := Lib.hid (HFa.out.trans Fa (fun _ k => .inl k))
                    clear Ra Fa HG
                    have bX := HFa.out.heap HX.out hr2.out.2.2
                    have HbX := Lib.hid bX
                    have q1 : u2.cell? ⟨g + 2, 1, none⟩ = some (.slice A k c) := by rw [blk_cell bX]; rfl
                    have HO5 := Lib.hid (HO.out.fr HFa.out (fun q hq e => by have e2 : q = r := e; have := HN.out q hq; have := hrl.out; omega))
                    have HF5 := Lib.hid (HFr.out.trans HFa.out (fun i hi => .inl (.inl hi)))
                    clear bX
                    go_wp2_with (at_builtin; go_loud (refine own_append_k rfl (.tmp 104) (.tmp 109) 34 48 (.agg #[.int .i64 0, .int .i64 0, .int .i64 0]) 3 24 rfl Try.underlying34 infoS rfl (by decide) (by decide) _ k ((itL (seV l) (seN l) s2 k).flatMap sec) _ _ rfl rfl rfl rfl (by simp [Value.oneCell']) HO5.out (by omega) ?_))
                    intro v6 w6 o6 f6 a6
                    obtain ⟨N6, R6, F6, b6⟩ := snoc_s2 hrl.out hgb.out hPb.out HN.out HRa.out HF5.out HbX.out f6 a6
                    obtain ⟨A6, c6, rfl, _, _, _, _⟩ := o6.shape
                    have q2 : w6.cell? ⟨g + 2, 1, none⟩ = some (.slice A k c) := by rw [blk_cell b6]; rfl
                    have z2 := blk_free b6 1
                    obtain ⟨R7, F7, b7, f7⟩ := set_s2 (by have := hgr.out; omega) (fun k hk => by have := hk.1; omega) R6 F6 b6 1 (.slice A6 (k + 1) c6)
                    have O7 := o6.fr f7 (fun q hq e => by have e2 : q = g + 2 := e; have := N6 q hq; have := hgb.out; omega)
                    have O8 : OwnK (w6.setCell ⟨g + 2, 1, none⟩ (.slice A6 (k + 1) c6)) 48 3 (.slice A6 (k + 1) c6) (k + 1) ((itL (seV l) (seN l) s2 (k + 1)).flatMap sec) := by rw [hfl.out, hV.out.1]; exact O7
                    have R8 : InAt (w6.setCell ⟨g + 2, 1, none⟩ (.slice A6 (k + 1) c6)) r (fun k => g + 3 ≤ k ∧ k < r) l (itS (seN l) s2 (k + 1)) := by rw [hsu.out, hV.out.2]; exact R7
                    obtain ⟨w7, hw7⟩ : ∃ W, w6.setCell ⟨g + 2, 1, none⟩ (.slice A6 (k + 1) c6) = W := ⟨_, rfl⟩
                    rw [hw7] at O8 R8 F7 b7
                    have H1 := Lib.hid O8
                    have H2 := Lib.hid R8
                    have H3 := Lib.hid F7
                    have H4 : Hid (w7.heap[g + 2]? = some (.cells #[.slice A1 x1.length c1, .slice A6 (k + 1) c6, .slice none 0 0, .slice none 0 0, .slice none 0 0, .int .i64 0, .int .i64 0, .int .i64 0, .int .i64 0, .int .i64 0] 38 (0, 0))) := b7
                    have H5 := Lib.hid N6
                    clear o6 f6 a6 N6 R6 F6 b6 R7 F7 b7 f7 O7 O8 R8 HO5 HF5 HbX HRa HFa q1
                    go_wp2
                    go_roundg (n2 - (k + 1))
                    case measure => omega
                    case rel => exact ⟨k + 1, A6, c6, by omega, by go_num, H4, H1, H5, H2, H3⟩
                · have hkn2 : k = n2 := by omega
                  have hkx : ¬ (k : Int) < (n2 : Int) := by omega
                  have HKN := Lib.hid hkn2
                  clear cf hkn2 hkn
                  go_wp2
                  go_meet
                  case rel => exact ⟨A, c, itL (seV l) (seN l) s2 k, Lib.hid (by rw [itL_length]; exact HX.out), Lib.hid (by rw [itL_length]; exact loop_end HO.out HN.out hrl.out), Lib.hid (by rw [Hq2.out.1, ← HKN.out]; exact HR.out), HFr, Lib.hid (fun _ => by rw [Hq2.out.2, ← HKN.out])⟩
            case rest =>
              obtain ⟨A2, c2, x2, HB6, HP2, HI2, HFz, HE2⟩ := hcut
              replace HB2 := Lib.hid (HFz.out.heap HB2.out hs2.out.1)
              replace HB4 := Lib.hid (HFz.out.heap HB4.out hs2.out.2)
              replace HF := Lib.hid (HF.out.trans HFz.out (fun i hi => .inr (by rcases hi with e | e <;> rw [e] <;> first | exact hwr.out | exact hgw2.out)))
              replace HP1 := Lib.hid (HP1.out.fr HFz.out (fun k hk e => by have := hgr.out; rcases e with e | e <;> omega))
              replace hrl := Lib.hid (Nat.lt_of_lt_of_le hrl.out HFz.out.size)
              clear HI HB5 Hq2 nlt
              have HI := Lib.hid HI2.out
              have HB5 := Lib.hid HB6.out
              obtain ⟨wd2, hwd2⟩ : ∃ W, wc = W := ⟨_, rfl⟩
              subst hwd2
              clear HI2 HB6 HFz
              -- nested 2
              have HL := Lib.hid (rnested_any HI.out (fun k hk => by have := hrl.out; have := hk.2; omega))
              go_wp2_with fail
              refine HL.out.mono ?_
              rintro e wa3 ⟨v, M3, rfl, O, R, F, E⟩
              obtain ⟨A3, c3, rfl, hn3, hz3, P3⟩ := Rd2.own O
              have HE3 := Lib.hid E
              have b5 := F.heap HB5.out hr2.out.2.2
              have qc : wa3.cell? ⟨g + 2, 2, none⟩ = some (.slice none 0 0) := by rw [blk_cell b5]; rfl
              have qf := blk_free b5 2
              have fs := (Fr.refl (fun k => k = g + 2) wa3).setCell (p := ⟨g + 2, 2, none⟩) (.inl rfl) (.slice A3 M3.length c3)
              have b8 : (wa3.setCell ⟨g + 2, 2, none⟩ (.slice A3 M3.length c3)).heap[g + 2]? = some (.cells #[.slice A1 x1.length c1, .slice A2 x2.length c2, .slice A3 M3.length c3, .slice none 0 0, .slice none 0 0, .int .i64 0, .int .i64 0, .int .i64 0, .int .i64 0, .int .i64 0] 38 (0, 0)) := blk_set b5 2 _
              have fz : Fr (S2 (g + 2) r) _ (wa3.setCell ⟨g + 2, 2, none⟩ (.slice A3 M3.length c3)) := Fr.trans (F.mono (T := S2 (g + 2) r) (fun i hi => .inl hi)) fs (fun i hi => .inl (.inr hi))
              have Rz := R.fr fs (fun e => hr2.out.2.2 (Eq.symm e)) (fun k hk e => by have e2 : k = g + 2 := e; have := hk.1; omega)
              obtain ⟨W3, hW3⟩ : ∃ W, wa3.setCell ⟨g + 2, 2, none⟩ (.slice A3 M3.length c3) = W := ⟨_, rfl⟩
              rw [hW3] at fs b8 fz Rz
              replace HB2 := Lib.hid (fz.heap HB2.out hs2.out.1)
              replace HB4 := Lib.hid (fz.heap HB4.out hs2.out.2)
              replace HF := Lib.hid (HF.out.trans fz (fun i hi => .inr (by rcases hi with e | e <;> rw [e] <;> first | exact hwr.out | exact hgw2.out)))
              replace HP1 := Lib.hid (HP1.out.fr fz (fun k hk e => by have := hgr.out; rcases e with e | e <;> omega))
              replace HP2 := Lib.hid (HP2.out.fr fz (fun k hk e => by have := hgr.out; rcases e with e | e <;> omega))
              have HP3 := Lib.hid ((P3.mono (c := r + 1) (by have := hrl.out; omega)).fr fs (fun k hk e => by have e2 : k = g + 2 := e; have := hgr.out; omega))
              replace hrl := Lib.hid (Nat.lt_of_lt_of_le hrl.out fz.size)
              replace HB5 := Lib.hid b8
              replace HI := Lib.hid (show InAt W3 r (fun k => g + 3 ≤ k ∧ k < r) l (q3 l) from Rz)
              clear HL O R F E P3 b5 fs b8 fz Rz
              -- list 3
              have HG := Lib.hid (iget8 HI.out)
              have nlt := gt_lt l (q3 l) 8
              obtain ⟨n4, hn4⟩ : ∃ n, gt l (q3 l) 8 = n := ⟨_, rfl⟩
              obtain ⟨s4, hs4⟩ : ∃ s, nx l (q3 l) 8 = s := ⟨_, rfl⟩
              have Hq4 : Hid (q4 l = itS (poN l) s4 n4 ∧ liL (poV l) (poN l) l (q3 l) = itL (poV l) (poN l) s4 n4) := by rw [← hn4, ← hs4]; exact ⟨rfl, rfl⟩
              rw [hn4, hs4] at HG
              rw [hn4] at nlt
              have i1 : IntKind.i64.wrap (n4 : Int) = (n4 : Int) := by rw [IntKind.wrap_i64]; omega
              clear hn4 hs4
              go_wp2_with fail
              refine HG.out.mono ?_
              rintro e wb4 ⟨rfl, R, F⟩
              replace HB2 := Lib.hid (F.heap HB2.out hr2.out.1)
              replace HB4 := Lib.hid (F.heap HB4.out hr2.out.2.1)
              replace HF := Lib.hid (HF.out.trans F (fun i hi => .inr (by rw [show i = r from hi]; exact hwr.out)))
              replace HP1 := Lib.hid (HP1.out.fr F (fun k hk e => by have e2 : k = r := e; omega))
              replace HP2 := Lib.hid (HP2.out.fr F (fun k hk e => by have e2 : k = r := e; omega))
              replace HP3 := Lib.hid (HP3.out.fr F (fun k hk e => by have e2 : k = r := e; omega))
              replace HB5 := Lib.hid (F.heap HB5.out hr2.out.2.2)
              replace HI := Lib.hid R
              replace hrl := Lib.hid (Nat.lt_of_lt_of_le hrl.out F.size)
              clear R F HG
              go_upto_block 4 with (fail)
              clear i1
              try clear hW3
              go_cut [] (fun wc => ∃ (A4 : Option Addr) (c4 : Nat) (x4 : List _), Hid (wc.heap[g + 2]? = some (.cells #[.slice A1 x1.length c1, .slice A2 x2.length c2, .slice A3 M3.length c3, .slice A4 x4.length c4, .slice none 0 0, .int .i64 0, .int .i64 0, .int .i64 0, .int .i64 0, .int .i64 0] 38 (0, 0))) ∧ Hid (RdN (r + 1) wc A4 4 x4.length (x4.flatMap poc)) ∧ Hid (InAt wc r (fun k => g + 3 ≤ k ∧ k < r) l (q4 l)) ∧ Hid (Fr (S2 (g + 2) r) wb4 wc) ∧ Hid ((q4 l).2 = false → x4 = liL (poV l) (poN l) l (q3 l)))
              case first =>
                have hPb : Hid (∀ k, (g + 3 ≤ k ∧ k < r) → k < wb4.heap.size) := fun k hk => by have := hrl.out; have := hk.2; omega
                have hgb : Hid (g + 2 < wb4.heap.size) := by show g + 2 < wb4.heap.size; have := hrl.out; have := hgr.out; omega
                go_wp2
                go_loopg [17] n4 (fun gk i wr => ∃ (k : Nat) (A : Option Addr) (c : Nat), k + gk = n4 ∧ i = .int .i64 (k : Int) ∧ Hid (wr.heap[g + 2]? = some (.cells #[.slice A1 x1.length c1, .slice A2 x2.length c2, .slice A3 M3.length c3, .slice A k c, .slice none 0 0, .int .i64 0, .int .i64 0, .int .i64 0, .int .i64 0, .int .i64 0] 38 (0, 0))) ∧ Hid (OwnK wr 51 4 (.slice A k c) k ((itL (poV l) (poN l) s4 k).flatMap poc)) ∧ Hid (New wb4 (.slice A k c)) ∧ Hid (InAt wr r (fun k => g + 3 ≤ k ∧ k < r) l (itS (poN l) s4 k)) ∧ Hid (Fr (S2 (g + 2) r) wb4 wr))
                case atStart => exact ⟨0, none, 0, by omega, rfl, HB5, OwnK.nil _ _ _, (fun k e => by simp [Value.ownBlock] at e), HI, Fr.refl _ _⟩
                case round =>
                  obtain ⟨k, A, c, hk, rfl, HX, HO, HN, HR, HFr⟩ := hrel
                  clear HI HB5
                  have cf := HR.out.failed
                  by_cases hkn : k < n4
                  · have hki : (k : Int) < (n4 : Int) := by omega
                    obtain ⟨b, hb⟩ : ∃ b, (itS (poN l) s4 k).2 = b := ⟨_, rfl⟩
                    rw [hb] at cf
                    have HB := Lib.hid hb
                    have q0 : wr.cell? ⟨g + 2, 3, none⟩ = some (.slice A k c) := by rw [blk_cell HX.out]; rfl
                    cases b with
                    | true =>
                      have hst := itS_stop (poN_stops l) HB.out gk
                      rw [hk] at hst
                      have HST := Lib.hid hst
                      clear hb hst q0
                      go_wp2
                      go_meet
                      case rel => exact ⟨A, c, itL (poV l) (poN l) s4 k, Lib.hid (by rw [itL_length]; exact HX.out), Lib.hid (by rw [itL_length]; exact loop_end HO.out HN.out hrl.out), Lib.hid (by rw [Hq4.out.1, HST.out]; exact HR.out), HFr, Lib.hid (fun hx => by rw [Hq4.out.1, HST.out, HB.out] at hx; cases hx)⟩
                    | false =>
                      clear hb
                      obtain ⟨sk, hsk⟩ : ∃ s, itS (poN l) s4 k = s := ⟨_, rfl⟩
                      have hsu : Hid (itS (poN l) s4 (k + 1) = poN l sk) := by rw [← hsk]; rfl
                      have hfl := Lib.hid (itL_flat (poV l) (poN l) s4 poc k)
                      rw [hsk] at HR hfl
                      clear hsk
                      obtain ⟨y0, hy0⟩ : ∃ y, gt l sk 8 = y := ⟨_, rfl⟩
                      have ylt0 := gt_lt l sk 8
                      rw [hy0] at ylt0
                      obtain ⟨y1, hy1⟩ : ∃ y, gt l (nx l sk 8) 8 = y := ⟨_, rfl⟩
                      have ylt1 := gt_lt l (nx l sk 8) 8
                      rw [hy1] at ylt1
                      obtain ⟨y2, hy2⟩ : ∃ y, gt l (nx l (nx l sk 8) 8) 8 = y := ⟨_, rfl⟩
                      have ylt2 := gt_lt l (nx l (nx l sk 8) 8) 8
                      rw [hy2] at ylt2
                      obtain ⟨y3, hy3⟩ : ∃ y, gt l (nx l (nx l (nx l sk 8) 8) 8) 8 = y := ⟨_, rfl⟩
                      have ylt3 := gt_lt l (nx l (nx l (nx l sk 8) 8) 8) 8
                      rw [hy3] at ylt3
                      have hV : Hid (poV l sk = (y0, y1, y2, y3) ∧ poN l sk = (nx l (nx l (nx l (nx l sk 8) 8) 8) 8)) := by rw [← hy0, ← hy1, ← hy2, ← hy3]; exact ⟨rfl, rfl⟩
                      have Hy0 := Lib.hid hy0
                      have j0 : IntKind.i64.wrap (y0 : Int) = (y0 : Int) := by rw [IntKind.wrap_i64]; omega
                      have Hy1 := Lib.hid hy1
                      have j1 : IntKind.i64.wrap (y1 : Int) = (y1 : Int) := by rw [IntKind.wrap_i64]; omega
                      have Hy2 := Lib.hid hy2
                      have j2 : IntKind.i64.wrap (y2 : Int) = (y2 : Int) := by rw [IntKind.wrap_i64]; omega
                      have Hy3 := Lib.hid hy3
                      have j3 : IntKind.i64.wrap (y3 : Int) = (y3 : Int) := by rw [IntKind.wrap_i64]; omega
                      clear hy0 hy1 hy2 hy3
                      have fx := (Fr.refl No wr).alloc (.cells #[.int .i64 0, .int .i64 0, .int .i64 0, .int .i64 0] 107)
                      have bx : (wr.alloc (.cells #[.int .i64 0, .int .i64 0, .int .i64 0, .int .i64 0] 107)).heap[wr.heap.size]? = some (.cells #[.int .i64 0, .int .i64 0, .int .i64 0, .int .i64 0] 107 (0, 0)) := blk_new _ _
                      obtain ⟨xb, hxb⟩ : ∃ b, wr.heap.size = b := ⟨_, rfl⟩
                      rw [hxb] at bx
                      obtain ⟨V, hV0⟩ : ∃ W, wr.alloc (.cells #[.int .i64 0, .int .i64 0, .int .i64 0, .int .i64 0] 107) = W := ⟨_, rfl⟩
                      rw [hV0] at fx bx
                      have hxr : Hid (r < xb) := by show r < xb; rw [← hxb]; have := HFr.out.size; have := hrl.out; omega
                      have hxw : Hid (wr.heap.size ≤ xb) := by show wr.heap.size ≤ xb; omega
                      have HFa := Lib.hid (fx.no (S := RS r))
                      have HRa := Lib.hid (HR.out.fr fx (fun k => k) (fun _ _ k => k))
                      have HBx := Lib.hid bx
                      clear fx bx
                      go_wp2
                      clear cf
                      refine wp_loop_rounds 5 ?_
                      rw [rounds_succ]
                      have HG := Lib.hid (iget8 HRa.out)
                      rw [Hy0.out] at HG
                      go_wp2_with fail
                      refine HG.out.mono ?_
                      rintro e u0 ⟨rfl, Ra, Fa⟩
                      have bx := Fa.heap HBx.out (fun e => by have e2 : xb = r := e; have := hxr.out; omega)
                      have qx : u0.cell? ⟨xb, 0, none⟩ = some (.int .i64 0) := by rw [blk_cell bx]; rfl
                      have zx := blk_free bx 0
                      have fs := (Fr.refl (fun k => k = xb) u0).setCell (p := ⟨xb, 0, none⟩) (.inl rfl) (.int .i64 (y0 : Int))
                      have by2 : (u0.setCell ⟨xb, 0, none⟩ (.int .i64 (y0 : Int))).heap[xb]? = some (.cells #[.int .i64 (y0 : Int), .int .i64 0, .int .i64 0, .int .i64 0] 107 (0, 0)) := blk_set bx 0 _
                      obtain ⟨V1, hV1⟩ : ∃ W, u0.setCell ⟨xb, 0, none⟩ (.int .i64 (y0 : Int)) = W := ⟨_, rfl⟩
                      rw [hV1] at fs by2
                      replace HRa := Lib.hid (Ra.fr fs (fun e => by have e2 : r = xb := e; have := hxr.out; omega) (fun k hk e => by have e2 : k = xb := e; have := hxr.out; have := hk.2; omega))
                      replace HFa := Lib.hid ((HFa.out.trans Fa (fun _ k => .inl k)).trans fs (fun i hi => .inr (by rw [show i = xb from hi]; exact hxw.out)))
                      replace HBx := Lib.hid by2
                      clear Ra Fa HG bx fs by2
                      go_wp2
                      clear hV1 qx zx
                      clear hV0
                      rw [rounds_succ]
                      have HG := Lib.hid (iget8 HRa.out)
                      rw [Hy1.out] at HG
                      go_wp2_with fail
                      refine HG.out.mono ?_
                      rintro e u1 ⟨rfl, Ra, Fa⟩
                      have bx := Fa.heap HBx.out (fun e => by have e2 : xb = r := e; have := hxr.out; omega)
                      have qx : u1.cell? ⟨xb, 1, none⟩ = some (.int .i64 0) := by rw [blk_cell bx]; rfl
                      have zx := blk_free bx 1
                      have fs := (Fr.refl (fun k => k = xb) u1).setCell (p := ⟨xb, 1, none⟩) (.inl rfl) (.int .i64 (y1 : Int))
                      have by2 : (u1.setCell ⟨xb, 1, none⟩ (.int .i64 (y1 : Int))).heap[xb]? = some (.cells #[.int .i64 (y0 : Int), .int .i64 (y1 : Int), .int .i64 0, .int .i64 0] 107 (0, 0)) := blk_set bx 1 _
                      obtain ⟨V2, hV2⟩ : ∃ W, u1.setCell ⟨xb, 1, none⟩ (.int .i64 (y1 : Int)) = W := ⟨_, rfl⟩
                      rw [hV2] at fs by2
                      replace HRa := Lib.hid (Ra.fr fs (fun e => by have e2 : r = xb := e; have := hxr.out; omega) (fun k hk e => by have e2 : k = xb := e; have := hxr.out; have := hk.2; omega))
                      replace HFa := Lib.hid ((HFa.out.trans Fa (fun _ k => .inl k)).trans fs (fun i hi => .inr (by rw [show i = xb from hi]; exact hxw.out)))
                      replace HBx := Lib.hid by2
                      clear Ra Fa HG bx fs by2
                      go_wp2
                      clear hV2 qx zx
                      rw [rounds_succ]
                      have HG := Lib.hid (iget8 HRa.out)
                      rw [Hy2.out] at HG
                      go_wp2_with fail
                      refine HG.out.mono ?_
                      rintro e u2 ⟨rfl, Ra, Fa⟩
                      have bx := Fa.heap HBx.out (fun e => by have e2 : xb = r := e; have := hxr.out; omega)
                      have qx : u2.cell? ⟨xb, 2, none⟩ = some (.int .i64 0) := by rw [blk_cell bx]; rfl
                      have zx := blk_free bx 2
                      have fs := (Fr.refl (fun k => k = xb) u2).setCell (p := ⟨xb, 2, none⟩) (.inl rfl) (.int .i64 (y2 : Int))
                      have by2 : (u2.setCell ⟨xb, 2, none⟩ (.int .i64 (y2 : Int))).heap[xb]? = some (.cells #[.int .i64 (y0 : Int), .int .i64 (y1 : Int), .int .i64 (y2 : Int), .int .i64 0] 107 (0, 0)) := blk_set bx 2 _
                      obtain ⟨V3, hV3⟩ : ∃ W, u2.setCell ⟨xb, 2, none⟩ (.int .i64 (y2 : Int)) = W := ⟨_, rfl⟩
                      rw [hV3] at fs by2
                      replace HRa := Lib.hid (Ra.fr fs (fun e => by have e2 : r = xb := e; have := hxr.out; omega) (fun k hk e => by have e2 : k = xb := e; have := hxr.out; have := hk.2; omega))
                      replace HFa := Lib.hid ((HFa.out.trans Fa (fun _ k => .inl k)).trans fs (fun i hi => .inr (by rw [show i = xb from hi]; exact hxw.out)))
                      replace HBx := Lib.hid by2
                      clear Ra Fa HG bx fs by2
                      go_wp2
                      clear hV3 qx zx
                      rw [rounds_succ]
                      have HG := Lib.hid (iget8 HRa.out)
                      rw [Hy3.out] at HG
                      go_wp2_with fail
                      refine HG.out.mono ?_
                      rintro e u3 ⟨rfl, Ra, Fa⟩
                      have bx := Fa.heap HBx.out (fun e => by have e2 : xb = r := e; have := hxr.out; omega)
                      have qx : u3.cell? ⟨xb, 3, none⟩ = some (.int .i64 0) := by rw [blk_cell bx]; rfl
                      have zx := blk_free bx 3
                      have fs := (Fr.refl (fun k => k = xb) u3).setCell (p := ⟨xb, 3, none⟩) (.inl rfl) (.int .i64 (y3 : Int))
                      have by2 : (u3.setCell ⟨xb, 3, none⟩ (.int .i64 (y3 : Int))).heap[xb]? = some (.cells #[.int .i64 (y0 : Int), .int .i64 (y1 : Int), .int .i64 (y2 : Int), .int .i64 (y3 : Int)] 107 (0, 0)) := blk_set bx 3 _
                      obtain ⟨V4, hV4⟩ : ∃ W, u3.setCell ⟨xb, 3, none⟩ (.int .i64 (y3 : Int)) = W := ⟨_, rfl⟩
                      rw [hV4] at fs by2
                      replace HRa := Lib.hid (Ra.fr fs (fun e => by have e2 : r = xb := e; have := hxr.out; omega) (fun k hk e => by have e2 : k = xb := e; have := hxr.out; have := hk.2; omega))
                      replace HFa := Lib.hid ((HFa.out.trans Fa (fun _ k => .inl k)).trans fs (fun i hi => .inr (by rw [show i = xb from hi]; exact hxw.out)))
                      replace HBx := Lib.hid by2
                      clear Ra Fa HG bx fs by2
                      go_wp2
                      clear hV4 qx zx
                      rw [rounds_succ]
                      have b4x := four HBx.out
                      obtain ⟨xc0, xc1, xc2, xc3, _, _, _, _⟩ := b4x
                      have bX := HFa.out.heap HX.out hr2.out.2.2
                      have HbX := Lib.hid bX
                      have q1 : V4.cell? ⟨g + 2, 3, none⟩ = some (.slice A k c) := by rw [blk_cell bX]; rfl
                      have HO5 := Lib.hid (HO.out.fr HFa.out (fun q hq e => by have e2 : q = r := e; have := HN.out q hq; have := hrl.out; omega))
                      have HF5 := Lib.hid (HFr.out.trans HFa.out (fun i hi => .inl (.inl hi)))
                      clear bX
                      go_wp2_with (at_builtin; go_loud (refine own_append_k rfl (.tmp 140) (.tmp 150) 36 51 (.agg #[.int .i64 0, .int .i64 0, .int .i64 0, .int .i64 0]) 4 32 rfl Try.underlying36 infoP rfl (by decide) (by decide) _ k ((itL (poV l) (poN l) s4 k).flatMap poc) _ _ rfl rfl rfl rfl (by simp [Value.oneCell']) HO5.out (by omega) ?_))
                      intro v6 w6 o6 f6 a6
                      obtain ⟨N6, R6, F6, b6⟩ := snoc_s2 hrl.out hgb.out hPb.out HN.out HRa.out HF5.out HbX.out f6 a6
                      obtain ⟨A6, c6, rfl, _, _, _, _⟩ := o6.shape
                      have q2 : w6.cell? ⟨g + 2, 3, none⟩ = some (.slice A k c) := by rw [blk_cell b6]; rfl
                      have z2 := blk_free b6 3
                      obtain ⟨R7, F7, b7, f7⟩ := set_s2 (by have := hgr.out; omega) (fun k hk => by have := hk.1; omega) R6 F6 b6 3 (.slice A6 (k + 1) c6)
                      have O7 := o6.fr f7 (fun q hq e => by have e2 : q = g + 2 := e; have := N6 q hq; have := hgb.out; omega)
                      have O8 : OwnK (w6.setCell ⟨g + 2, 3, none⟩ (.slice A6 (k + 1) c6)) 51 4 (.slice A6 (k + 1) c6) (k + 1) ((itL (poV l) (poN l) s4 (k + 1)).flatMap poc) := by rw [hfl.out, hV.out.1]; exact O7
                      have R8 : InAt (w6.setCell ⟨g + 2, 3, none⟩ (.slice A6 (k + 1) c6)) r (fun k => g + 3 ≤ k ∧ k < r) l (itS (poN l) s4 (k + 1)) := by rw [hsu.out, hV.out.2]; exact R7
                      obtain ⟨w7, hw7⟩ : ∃ W, w6.setCell ⟨g + 2, 3, none⟩ (.slice A6 (k + 1) c6) = W := ⟨_, rfl⟩
                      rw [hw7] at O8 R8 F7 b7
                      have H1 := Lib.hid O8
                      have H2 := Lib.hid R8
                      have H3 := Lib.hid F7
                      have H4 : Hid (w7.heap[g + 2]? = some (.cells #[.slice A1 x1.length c1, .slice A2 x2.length c2, .slice A3 M3.length c3, .slice A6 (k + 1) c6, .slice none 0 0, .int .i64 0, .int .i64 0, .int .i64 0, .int .i64 0, .int .i64 0] 38 (0, 0))) := b7
                      have H5 := Lib.hid N6
                      clear o6 f6 a6 N6 R6 F6 b6 R7 F7 b7 f7 O7 O8 R8 HO5 HF5 HbX HRa HFa q1
                      go_wp2
                      go_roundg (n4 - (k + 1))
                      case measure => omega
                      case rel => exact ⟨k + 1, A6, c6, by omega, by go_num, H4, H1, H5, H2, H3⟩
                  · have hkn2 : k = n4 := by omega
                    have hkx : ¬ (k : Int) < (n4 : Int) := by omega
                    have HKN := Lib.hid hkn2
                    clear cf hkn2 hkn
                    go_wp2
                    go_meet
                    case rel => exact ⟨A, c, itL (poV l) (poN l) s4 k, Lib.hid (by rw [itL_length]; exact HX.out), Lib.hid (by rw [itL_length]; exact loop_end HO.out HN.out hrl.out), Lib.hid (by rw [Hq4.out.1, ← HKN.out]; exact HR.out), HFr, Lib.hid (fun _ => by rw [Hq4.out.2, ← HKN.out])⟩
              case rest =>
                obtain ⟨A4, c4, x4, HB6, HP4, HI2, HFz, HE4⟩ := hcut
                replace HB2 := Lib.hid (HFz.out.heap HB2.out hs2.out.1)
                replace HB4 := Lib.hid (HFz.out.heap HB4.out hs2.out.2)
                replace HF := Lib.hid (HF.out.trans HFz.out (fun i hi => .inr (by rcases hi with e | e <;> rw [e] <;> first | exact hwr.out | exact hgw2.out)))
                replace HP1 := Lib.hid (HP1.out.fr HFz.out (fun k hk e => by have := hgr.out; rcases e with e | e <;> omega))
                replace HP2 := Lib.hid (HP2.out.fr HFz.out (fun k hk e => by have := hgr.out; rcases e with e | e <;> omega))
                replace HP3 := Lib.hid (HP3.out.fr HFz.out (fun k hk e => by have := hgr.out; rcases e with e | e <;> omega))
                replace hrl := Lib.hid (Nat.lt_of_lt_of_le hrl.out HFz.out.size)
                clear HI HB5 Hq4 nlt
                have HI := Lib.hid HI2.out
                have HB5 := Lib.hid HB6.out
                obtain ⟨wd4, hwd4⟩ : ∃ W, wc = W := ⟨_, rfl⟩
                subst hwd4
                clear HI2 HB6 HFz
                -- nested 4
                have HL := Lib.hid (rnested_any HI.out (fun k hk => by have := hrl.out; have := hk.2; omega))
                go_wp2_with fail
                refine HL.out.mono ?_
                rintro e wa5 ⟨v, M5, rfl, O, R, F, E⟩
                obtain ⟨A5, c5, rfl, hn5, hz5, P5⟩ := Rd2.own O
                have HE5 := Lib.hid E
                have b5 := F.heap HB5.out hr2.out.2.2
                have qc : wa5.cell? ⟨g + 2, 4, none⟩ = some (.slice none 0 0) := by rw [blk_cell b5]; rfl
                have qf := blk_free b5 4
                have fs := (Fr.refl (fun k => k = g + 2) wa5).setCell (p := ⟨g + 2, 4, none⟩) (.inl rfl) (.slice A5 M5.length c5)
                have b8 : (wa5.setCell ⟨g + 2, 4, none⟩ (.slice A5 M5.length c5)).heap[g + 2]? = some (.cells #[.slice A1 x1.length c1, .slice A2 x2.length c2, .slice A3 M3.length c3, .slice A4 x4.length c4, .slice A5 M5.length c5, .int .i64 0, .int .i64 0, .int .i64 0, .int .i64 0, .int .i64 0] 38 (0, 0)) := blk_set b5 4 _
                have fz : Fr (S2 (g + 2) r) _ (wa5.setCell ⟨g + 2, 4, none⟩ (.slice A5 M5.length c5)) := Fr.trans (F.mono (T := S2 (g + 2) r) (fun i hi => .inl hi)) fs (fun i hi => .inl (.inr hi))
                have Rz := R.fr fs (fun e => hr2.out.2.2 (Eq.symm e)) (fun k hk e => by have e2 : k = g + 2 := e; have := hk.1; omega)
                obtain ⟨W5, hW5⟩ : ∃ W, wa5.setCell ⟨g + 2, 4, none⟩ (.slice A5 M5.length c5) = W := ⟨_, rfl⟩
                rw [hW5] at fs b8 fz Rz
                replace HB2 := Lib.hid (fz.heap HB2.out hs2.out.1)
                replace HB4 := Lib.hid (fz.heap HB4.out hs2.out.2)
                replace HF := Lib.hid (HF.out.trans fz (fun i hi => .inr (by rcases hi with e | e <;> rw [e] <;> first | exact hwr.out | exact hgw2.out)))
                replace HP1 := Lib.hid (HP1.out.fr fz (fun k hk e => by have := hgr.out; rcases e with e | e <;> omega))
                replace HP2 := Lib.hid (HP2.out.fr fz (fun k hk e => by have := hgr.out; rcases e with e | e <;> omega))
                replace HP3 := Lib.hid (HP3.out.fr fz (fun k hk e => by have := hgr.out; rcases e with e | e <;> omega))
                replace HP4 := Lib.hid (HP4.out.fr fz (fun k hk e => by have := hgr.out; rcases e with e | e <;> omega))
                have HP5 := Lib.hid ((P5.mono (c := r + 1) (by have := hrl.out; omega)).fr fs (fun k hk e => by have e2 : k = g + 2 := e; have := hgr.out; omega))
                replace hrl := Lib.hid (Nat.lt_of_lt_of_le hrl.out fz.size)
                replace HB5 := Lib.hid b8
                replace HI := Lib.hid (show InAt W5 r (fun k => g + 3 ≤ k ∧ k < r) l (q5 l) from Rz)
                clear HL O R F E P5 b5 fs b8 fz Rz
                obtain ⟨z5, hz5v⟩ : ∃ z, gt l (q5 l) 16 = z := ⟨_, rfl⟩
                have zlt := gt_lt l (q5 l) 16
                have HG := Lib.hid (iget_at HI.out 16 16 rfl (by omega))
                rw [hz5v] at HG zlt
                have HZ5 := Lib.hid hz5v
                have jz5 : IntKind.i64.wrap (z5 : Int) = (z5 : Int) := by rw [IntKind.wrap_i64]; omega
                clear hz5v
                go_wp2_with fail
                refine HG.out.mono ?_
                rintro e um5 ⟨rfl, R, F⟩
                have b5 := F.heap HB5.out hr2.out.2.2
                have qc : um5.cell? ⟨g + 2, 5, none⟩ = some (.int .i64 0) := by rw [blk_cell b5]; rfl
                have qf := blk_free b5 5
                have fs := (Fr.refl (fun k => k = g + 2) um5).setCell (p := ⟨g + 2, 5, none⟩) (.inl rfl) (.int .i64 (z5 : Int))
                have b8 : (um5.setCell ⟨g + 2, 5, none⟩ (.int .i64 (z5 : Int))).heap[g + 2]? = some (.cells #[.slice A1 x1.length c1, .slice A2 x2.length c2, .slice A3 M3.length c3, .slice A4 x4.length c4, .slice A5 M5.length c5, .int .i64 (z5 : Int), .int .i64 0, .int .i64 0, .int .i64 0, .int .i64 0] 38 (0, 0)) := blk_set b5 5 _
                have fz : Fr (S2 (g + 2) r) _ (um5.setCell ⟨g + 2, 5, none⟩ (.int .i64 (z5 : Int))) := Fr.trans (F.mono (T := S2 (g + 2) r) (fun i hi => .inl hi)) fs (fun i hi => .inl (.inr hi))
                have Rz := R.fr fs (fun e => hr2.out.2.2 (Eq.symm e)) (fun k hk e => by have e2 : k = g + 2 := e; have := hk.1; omega)
                obtain ⟨Y5, hY5⟩ : ∃ W, um5.setCell ⟨g + 2, 5, none⟩ (.int .i64 (z5 : Int)) = W := ⟨_, rfl⟩
                rw [hY5] at fs b8 fz Rz
                replace HB2 := Lib.hid (fz.heap HB2.out hs2.out.1)
                replace HB4 := Lib.hid (fz.heap HB4.out hs2.out.2)
                replace HF := Lib.hid (HF.out.trans fz (fun i hi => .inr (by rcases hi with e | e <;> rw [e] <;> first | exact hwr.out | exact hgw2.out)))
                replace HP1 := Lib.hid (HP1.out.fr fz (fun k hk e => by have := hgr.out; rcases e with e | e <;> omega))
                replace HP2 := Lib.hid (HP2.out.fr fz (fun k hk e => by have := hgr.out; rcases e with e | e <;> omega))
                replace HP3 := Lib.hid (HP3.out.fr fz (fun k hk e => by have := hgr.out; rcases e with e | e <;> omega))
                replace HP4 := Lib.hid (HP4.out.fr fz (fun k hk e => by have := hgr.out; rcases e with e | e <;> omega))
                replace HP5 := Lib.hid (HP5.out.fr fz (fun k hk e => by have := hgr.out; rcases e with e | e <;> omega))
                replace hrl := Lib.hid (Nat.lt_of_lt_of_le hrl.out fz.size)
                replace HB5 := Lib.hid b8
                replace HI := Lib.hid (show InAt Y5 r (fun k => g + 3 ≤ k ∧ k < r) l (q6 l) from Rz)
                clear HG R F b5 fs b8 fz Rz zlt hW5
                obtain ⟨z6, hz6v⟩ : ∃ z, gt l (q6 l) 16 = z := ⟨_, rfl⟩
                have zlt := gt_lt l (q6 l) 16
                have HG := Lib.hid (iget_at HI.out 16 16 rfl (by omega))
                rw [hz6v] at HG zlt
                have HZ6 := Lib.hid hz6v
                have jz6 : IntKind.i64.wrap (z6 : Int) = (z6 : Int) := by rw [IntKind.wrap_i64]; omega
                clear hz6v
                go_wp2_with fail
                refine HG.out.mono ?_
                rintro e um6 ⟨rfl, R, F⟩
                have b5 := F.heap HB5.out hr2.out.2.2
                have qc : um6.cell? ⟨g + 2, 6, none⟩ = some (.int .i64 0) := by rw [blk_cell b5]; rfl
                have qf := blk_free b5 6
                have fs := (Fr.refl (fun k => k = g + 2) um6).setCell (p := ⟨g + 2, 6, none⟩) (.inl rfl) (.int .i64 (z6 : Int))
                have b8 : (um6.setCell ⟨g + 2, 6, none⟩ (.int .i64 (z6 : Int))).heap[g + 2]? = some (.cells #[.slice A1 x1.length c1, .slice A2 x2.length c2, .slice A3 M3.length c3, .slice A4 x4.length c4, .slice A5 M5.length c5, .int .i64 (z5 : Int), .int .i64 (z6 : Int), .int .i64 0, .int .i64 0, .int .i64 0] 38 (0, 0)) := blk_set b5 6 _
                have fz : Fr (S2 (g + 2) r) _ (um6.setCell ⟨g + 2, 6, none⟩ (.int .i64 (z6 : Int))) := Fr.trans (F.mono (T := S2 (g + 2) r) (fun i hi => .inl hi)) fs (fun i hi => .inl (.inr hi))
                have Rz := R.fr fs (fun e => hr2.out.2.2 (Eq.symm e)) (fun k hk e => by have e2 : k = g + 2 := e; have := hk.1; omega)
                obtain ⟨Y6, hY6⟩ : ∃ W, um6.setCell ⟨g + 2, 6, none⟩ (.int .i64 (z6 : Int)) = W := ⟨_, rfl⟩
                rw [hY6] at fs b8 fz Rz
                replace HB2 := Lib.hid (fz.heap HB2.out hs2.out.1)
                replace HB4 := Lib.hid (fz.heap HB4.out hs2.out.2)
                replace HF := Lib.hid (HF.out.trans fz (fun i hi => .inr (by rcases hi with e | e <;> rw [e] <;> first | exact hwr.out | exact hgw2.out)))
                replace HP1 := Lib.hid (HP1.out.fr fz (fun k hk e => by have := hgr.out; rcases e with e | e <;> omega))
                replace HP2 := Lib.hid (HP2.out.fr fz (fun k hk e => by have := hgr.out; rcases e with e | e <;> omega))
                replace HP3 := Lib.hid (HP3.out.fr fz (fun k hk e => by have := hgr.out; rcases e with e | e <;> omega))
                replace HP4 := Lib.hid (HP4.out.fr fz (fun k hk e => by have := hgr.out; rcases e with e | e <;> omega))
                replace HP5 := Lib.hid (HP5.out.fr fz (fun k hk e => by have := hgr.out; rcases e with e | e <;> omega))
                replace hrl := Lib.hid (Nat.lt_of_lt_of_le hrl.out fz.size)
                replace HB5 := Lib.hid b8
                replace HI := Lib.hid (show InAt Y6 r (fun k => g + 3 ≤ k ∧ k < r) l (q7 l) from Rz)
                clear HG R F b5 fs b8 fz Rz zlt jz5 hY5
                obtain ⟨z7, hz7v⟩ : ∃ z, gt l (q7 l) 16 = z := ⟨_, rfl⟩
                have zlt := gt_lt l (q7 l) 16
                have HG := Lib.hid (iget_at HI.out 16 16 rfl (by omega))
                rw [hz7v] at HG zlt
                have HZ7 := Lib.hid hz7v
                have jz7 : IntKind.i64.wrap (z7 : Int) = (z7 : Int) := by rw [IntKind.wrap_i64]; omega
                clear hz7v
                go_wp2_with fail
                refine HG.out.mono ?_
                rintro e um7 ⟨rfl, R, F⟩
                have b5 := F.heap HB5.out hr2.out.2.2
                have qc : um7.cell? ⟨g + 2, 7, none⟩ = some (.int .i64 0) := by rw [blk_cell b5]; rfl
                have qf := blk_free b5 7
                have fs := (Fr.refl (fun k => k = g + 2) um7).setCell (p := ⟨g + 2, 7, none⟩) (.inl rfl) (.int .i64 (z7 : Int))
                have b8 : (um7.setCell ⟨g + 2, 7, none⟩ (.int .i64 (z7 : Int))).heap[g + 2]? = some (.cells #[.slice A1 x1.length c1, .slice A2 x2.length c2, .slice A3 M3.length c3, .slice A4 x4.length c4, .slice A5 M5.length c5, .int .i64 (z5 : Int), .int .i64 (z6 : Int), .int .i64 (z7 : Int), .int .i64 0, .int .i64 0] 38 (0, 0)) := blk_set b5 7 _
                have fz : Fr (S2 (g + 2) r) _ (um7.setCell ⟨g + 2, 7, none⟩ (.int .i64 (z7 : Int))) := Fr.trans (F.mono (T := S2 (g + 2) r) (fun i hi => .inl hi)) fs (fun i hi => .inl (.inr hi))
                have Rz := R.fr fs (fun e => hr2.out.2.2 (Eq.symm e)) (fun k hk e => by have e2 : k = g + 2 := e; have := hk.1; omega)
                obtain ⟨Y7, hY7⟩ : ∃ W, um7.setCell ⟨g + 2, 7, none⟩ (.int .i64 (z7 : Int)) = W := ⟨_, rfl⟩
                rw [hY7] at fs b8 fz Rz
                replace HB2 := Lib.hid (fz.heap HB2.out hs2.out.1)
                replace HB4 := Lib.hid (fz.heap HB4.out hs2.out.2)
                replace HF := Lib.hid (HF.out.trans fz (fun i hi => .inr (by rcases hi with e | e <;> rw [e] <;> first | exact hwr.out | exact hgw2.out)))
                replace HP1 := Lib.hid (HP1.out.fr fz (fun k hk e => by have := hgr.out; rcases e with e | e <;> omega))
                replace HP2 := Lib.hid (HP2.out.fr fz (fun k hk e => by have := hgr.out; rcases e with e | e <;> omega))
                replace HP3 := Lib.hid (HP3.out.fr fz (fun k hk e => by have := hgr.out; rcases e with e | e <;> omega))
                replace HP4 := Lib.hid (HP4.out.fr fz (fun k hk e => by have := hgr.out; rcases e with e | e <;> omega))
                replace HP5 := Lib.hid (HP5.out.fr fz (fun k hk e => by have := hgr.out; rcases e with e | e <;> omega))
                replace hrl := Lib.hid (Nat.lt_of_lt_of_le hrl.out fz.size)
                replace HB5 := Lib.hid b8
                replace HI := Lib.hid (show InAt Y7 r (fun k => g + 3 ≤ k ∧ k < r) l (q8 l) from Rz)
                clear HG R F b5 fs b8 fz Rz zlt jz6 hY6
                obtain ⟨z8, hz8v⟩ : ∃ z, gt l (q8 l) 16 = z := ⟨_, rfl⟩
                have zlt := gt_lt l (q8 l) 16
                have HG := Lib.hid (iget_at HI.out 16 16 rfl (by omega))
                rw [hz8v] at HG zlt
                have HZ8 := Lib.hid hz8v
                have jz8 : IntKind.i64.wrap (z8 : Int) = (z8 : Int) := by rw [IntKind.wrap_i64]; omega
                clear hz8v
                go_wp2_with fail
                refine HG.out.mono ?_
                rintro e um8 ⟨rfl, R, F⟩
                have b5 := F.heap HB5.out hr2.out.2.2
                have qc : um8.cell? ⟨g + 2, 8, none⟩ = some (.int .i64 0) := by rw [blk_cell b5]; rfl
                have qf := blk_free b5 8
                have fs := (Fr.refl (fun k => k = g + 2) um8).setCell (p := ⟨g + 2, 8, none⟩) (.inl rfl) (.int .i64 (z8 : Int))
                have b8 : (um8.setCell ⟨g + 2, 8, none⟩ (.int .i64 (z8 : Int))).heap[g + 2]? = some (.cells #[.slice A1 x1.length c1, .slice A2 x2.length c2, .slice A3 M3.length c3, .slice A4 x4.length c4, .slice A5 M5.length c5, .int .i64 (z5 : Int), .int .i64 (z6 : Int), .int .i64 (z7 : Int), .int .i64 (z8 : Int), .int .i64 0] 38 (0, 0)) := blk_set b5 8 _
                have fz : Fr (S2 (g + 2) r) _ (um8.setCell ⟨g + 2, 8, none⟩ (.int .i64 (z8 : Int))) := Fr.trans (F.mono (T := S2 (g + 2) r) (fun i hi => .inl hi)) fs (fun i hi => .inl (.inr hi))
                have Rz := R.fr fs (fun e => hr2.out.2.2 (Eq.symm e)) (fun k hk e => by have e2 : k = g + 2 := e; have := hk.1; omega)
                obtain ⟨Y8, hY8⟩ : ∃ W, um8.setCell ⟨g + 2, 8, none⟩ (.int .i64 (z8 : Int)) = W := ⟨_, rfl⟩
                rw [hY8] at fs b8 fz Rz
                replace HB2 := Lib.hid (fz.heap HB2.out hs2.out.1)
                replace HB4 := Lib.hid (fz.heap HB4.out hs2.out.2)
                replace HF := Lib.hid (HF.out.trans fz (fun i hi => .inr (by rcases hi with e | e <;> rw [e] <;> first | exact hwr.out | exact hgw2.out)))
                replace HP1 := Lib.hid (HP1.out.fr fz (fun k hk e => by have := hgr.out; rcases e with e | e <;> omega))
                replace HP2 := Lib.hid (HP2.out.fr fz (fun k hk e => by have := hgr.out; rcases e with e | e <;> omega))
                replace HP3 := Lib.hid (HP3.out.fr fz (fun k hk e => by have := hgr.out; rcases e with e | e <;> omega))
                replace HP4 := Lib.hid (HP4.out.fr fz (fun k hk e => by have := hgr.out; rcases e with e | e <;> omega))
                replace HP5 := Lib.hid (HP5.out.fr fz (fun k hk e => by have := hgr.out; rcases e with e | e <;> omega))
                replace hrl := Lib.hid (Nat.lt_of_lt_of_le hrl.out fz.size)
                replace HB5 := Lib.hid b8
                replace HI := Lib.hid (show InAt Y8 r (fun k => g + 3 ≤ k ∧ k < r) l (q9 l) from Rz)
                clear HG R F b5 fs b8 fz Rz zlt jz7 hY7
                obtain ⟨z9, hz9v⟩ : ∃ z, gt l (q9 l) 16 = z := ⟨_, rfl⟩
                have zlt := gt_lt l (q9 l) 16
                have HG := Lib.hid (iget_at HI.out 16 16 rfl (by omega))
                rw [hz9v] at HG zlt
                have HZ9 := Lib.hid hz9v
                have jz9 : IntKind.i64.wrap (z9 : Int) = (z9 : Int) := by rw [IntKind.wrap_i64]; omega
                clear hz9v
                go_wp2_with fail
                refine HG.out.mono ?_
                rintro e um9 ⟨rfl, R, F⟩
                have b5 := F.heap HB5.out hr2.out.2.2
                have qc : um9.cell? ⟨g + 2, 9, none⟩ = some (.int .i64 0) := by rw [blk_cell b5]; rfl
                have qf := blk_free b5 9
                have fs := (Fr.refl (fun k => k = g + 2) um9).setCell (p := ⟨g + 2, 9, none⟩) (.inl rfl) (.int .i64 (z9 : Int))
                have b8 : (um9.setCell ⟨g + 2, 9, none⟩ (.int .i64 (z9 : Int))).heap[g + 2]? = some (.cells #[.slice A1 x1.length c1, .slice A2 x2.length c2, .slice A3 M3.length c3, .slice A4 x4.length c4, .slice A5 M5.length c5, .int .i64 (z5 : Int), .int .i64 (z6 : Int), .int .i64 (z7 : Int), .int .i64 (z8 : Int), .int .i64 (z9 : Int)] 38 (0, 0)) := blk_set b5 9 _
                have fz : Fr (S2 (g + 2) r) _ (um9.setCell ⟨g + 2, 9, none⟩ (.int .i64 (z9 : Int))) := Fr.trans (F.mono (T := S2 (g + 2) r) (fun i hi => .inl hi)) fs (fun i hi => .inl (.inr hi))
                have Rz := R.fr fs (fun e => hr2.out.2.2 (Eq.symm e)) (fun k hk e => by have e2 : k = g + 2 := e; have := hk.1; omega)
                obtain ⟨Y9, hY9⟩ : ∃ W, um9.setCell ⟨g + 2, 9, none⟩ (.int .i64 (z9 : Int)) = W := ⟨_, rfl⟩
                rw [hY9] at fs b8 fz Rz
                replace HB2 := Lib.hid (fz.heap HB2.out hs2.out.1)
                replace HB4 := Lib.hid (fz.heap HB4.out hs2.out.2)
                replace HF := Lib.hid (HF.out.trans fz (fun i hi => .inr (by rcases hi with e | e <;> rw [e] <;> first | exact hwr.out | exact hgw2.out)))
                replace HP1 := Lib.hid (HP1.out.fr fz (fun k hk e => by have := hgr.out; rcases e with e | e <;> omega))
                replace HP2 := Lib.hid (HP2.out.fr fz (fun k hk e => by have := hgr.out; rcases e with e | e <;> omega))
                replace HP3 := Lib.hid (HP3.out.fr fz (fun k hk e => by have := hgr.out; rcases e with e | e <;> omega))
                replace HP4 := Lib.hid (HP4.out.fr fz (fun k hk e => by have := hgr.out; rcases e with e | e <;> omega))
                replace HP5 := Lib.hid (HP5.out.fr fz (fun k hk e => by have := hgr.out; rcases e with e | e <;> omega))
                replace hrl := Lib.hid (Nat.lt_of_lt_of_le hrl.out fz.size)
                replace HB5 := Lib.hid b8
                replace HI := Lib.hid (show InAt Y9 r (fun k => g + 3 ≤ k ∧ k < r) l (qE l) from Rz)
                clear HG R F b5 fs b8 fz Rz zlt jz8 hY8
                have cf := HI.out.failed
                by_cases hf : (qE l).2 = true
                · have hd : Hid (decL l = (lnone, 4)) := by show decL l = _; unfold decL; rw [if_pos hf]
                  rw [hf] at cf
                  have hD2 : Hid (decAL p = (lnone, 4)) := by show decAL p = _; rw [hD.out, hd.out]; rfl
                  clear hf hD
                  have hD := Lib.hid hD2.out
                  clear hD2 hd
                  go_wp2_with (first | (refine wpList_load_row rfl 38 (.tmp 4) rfl (g + 1) rfl 38 _ (0, 0) _ HB4.out Try.underlying38 rfl (by kernel_rfl) ?_) | (refine wpList_store_row rfl 38 (.tmp 2) (.tmp 180) rfl g #[.slice none 0 0, .slice none 0 0, .slice none 0 0, .slice none 0 0, .slice none 0 0, .int .i64 0, .int .i64 0, .int .i64 0, .int .i64 0, .int .i64 0] rfl rfl 38 _ HB2.out (by kernel_rfl) (by simp) (by simp [Value.oneCell']) ?_))
                  refine bodyPost_ret (results_cell2 rfl _ _ _ g _ rfl (run_loadVar_row _ g _ _ _ _ _ (setRow_heap _ g _ _ _ _ HB2.out) Try.underlying38 rfl (by kernel_rfl))) rfl ?_
                  exact ⟨lz, by rw [hD.out]; rfl, by rw [hD.out]; exact LayV.zero _ _, HF.out.row (.inr hgw.out)⟩
                · have hff : (qE l).2 = false := by simpa using hf
                  rw [hff] at cf
                  have HI2 := HI.out
                  obtain ⟨CC, cc, bb, IR, BO, _⟩ := HI2
                  have hbl2 := both_left BO
                  have ccell : Y9.cell? ⟨r, 0, none⟩ = some (.slice CC bb.length cc) := by rw [blk_cell IR.blk]; rfl
                  have Hff := Lib.hid hff
                  have HBL := Lib.hid hbl2
                  clear hff hf IR BO hbl2
                  by_cases hl0 : 0 < bb.length
                  · have hD2 : Hid (decAL p = (lnone, 2)) := by show decAL p = _; rw [hD.out]; unfold decL; rw [if_neg (by rw [Hff.out]; decide), if_pos (by rw [← HBL.out]; exact hl0)]; rfl
                    have hl1 : (0 : Int) < (bb.length : Int) := by omega
                    clear hD
                    have hD := Lib.hid hD2.out
                    clear hD2
                    go_wp2_with (first | (refine wpList_load_row rfl 38 (.tmp 4) rfl (g + 1) rfl 38 _ (0, 0) _ HB4.out Try.underlying38 rfl (by kernel_rfl) ?_) | (refine wpList_store_row rfl 38 (.tmp 2) (.tmp 187) rfl g #[.slice none 0 0, .slice none 0 0, .slice none 0 0, .slice none 0 0, .slice none 0 0, .int .i64 0, .int .i64 0, .int .i64 0, .int .i64 0, .int .i64 0] rfl rfl 38 _ HB2.out (by kernel_rfl) (by simp) (by simp [Value.oneCell']) ?_))
                    refine bodyPost_ret (results_cell2 rfl _ _ _ g _ rfl (run_loadVar_row _ g _ _ _ _ _ (setRow_heap _ g _ _ _ _ HB2.out) Try.underlying38 rfl (by kernel_rfl))) rfl ?_
                    exact ⟨lz, by rw [hD.out]; rfl, by rw [hD.out]; exact LayV.zero _ _, HF.out.row (.inr hgw.out)⟩
                  · have hd : Hid (decL l = (layOf l, 0)) := by show decL l = _; unfold decL; rw [if_neg (by rw [Hff.out]; decide), if_neg (by rw [← HBL.out]; exact hl0)]
                    have hl1 : bb.length = 0 := by omega
                    rw [hl1] at ccell
                    obtain ⟨⟨o1, o2, o3⟩, o4, o5⟩ := all_ok l Hff.out
                    have HV : Hid (LayV (r + 1) Y9 (layOf l) #[.slice A1 x1.length c1, .slice A2 x2.length c2, .slice A3 M3.length c3, .slice A4 x4.length c4, .slice A5 M5.length c5, .int .i64 (z5 : Int), .int .i64 (z6 : Int), .int .i64 (z7 : Int), .int .i64 (z8 : Int), .int .i64 (z9 : Int)]) := by
                      have e : layOf l = ⟨x1, x2.map seI, M3.map (fun x => x.2.2), x4.map poI, M5.map (fun x => x.2.2), z5, z6, z7, z8, z9⟩ := by
                        rw [HE1.out o1, HE2.out o2, HE3.out o3, HE4.out o4, HE5.out o5, ← HZ5.out, ← HZ6.out, ← HZ7.out, ← HZ8.out, ← HZ9.out]; rfl
                      rw [e]
                      exact LayV.mk5 HP1.out HP2.out HP3.out HP4.out HP5.out _ _ _ _ _
                    clear o1 o2 o3 o4 o5
                    go_upto_region 44 with (fail)
                    refine wp_region_lit ?_
                    refine wpList_load_row rfl 38 (.tmp 5) rfl (g + 2) rfl 38 _ (0, 0) _ HB5.out Try.underlying38 rfl (by kernel_rfl) ?_
                    simp only [Act.put, List.setIfInBounds_toArray, List.set_cons_zero, List.set_cons_succ]
                    refine wpList_store_row rfl 38 (.tmp 2) (.tmp 188) rfl g _ rfl rfl 38 _ HB2.out (by kernel_rfl) (by simp) (by simp [Value.oneCell']) ?_
                    clear hY9 HI HE1 HE2 HE3 HE4 HE5 HB4 HP1 HP2 HP3 HP4 HP5
                    go_wp2
                    refine bodyPost_ret (results_cell2 rfl _ _ _ g _ rfl (run_loadVar_row _ g _ _ _ _ _ (setRow_heap _ g _ _ _ _ HB2.out) Try.underlying38 rfl (by kernel_rfl))) rfl ?_
                    refine ⟨_, by rw [hD.out, hd.out]; rfl, ?_, HF.out.row (.inr hgw.out)⟩
                    rw [hD.out, hd.out]
                    exact (HV.out.fr ((Fr.refl (fun k => k = g) _).row (.inl rfl)) (fun k hk e => by have e2 : k = g := e; have := hgr.out; omega)).mono (by have := hwr.out; omega)
      · have hD : Hid (decAL p = (lnone, 2)) := by
          show decAL p = _
          unfold decAL
          rw [if_pos h0, hq, if_neg (by
            rw [hq2]
            intro e
            injection e with x1 x2
            injection x2 with x2 _
            exact hBL ⟨by rw [← hn0, x1]; rfl, by rw [← hn1, x2]; rfl⟩)]
        clear R F1 HO hq h0 h2 hq2 hn0 hn1 hbl
        by_cases h66 : n0 = 66
        · subst h66
          have h76 : ¬ n1 = 76 := fun e => hBL ⟨rfl, e⟩
          have h76' : ((n1 : Int) == 76) = false := by simp; omega
          have h76'' : ¬ (n1 : Int) = 76 := by omega
          have h76b : ((n1 : Int) != 76) = true := by simp; omega
          clear hBL
          go_wp2_with (first | (refine wpList_load_row rfl 38 (.tmp 4) rfl (g + 1) rfl 38 _ (0, 0) _ HB4.out Try.underlying38 rfl (by kernel_rfl) ?_) | (refine wpList_store_row rfl 38 (.tmp 2) (.tmp 44) rfl g #[.slice none 0 0, .slice none 0 0, .slice none 0 0, .slice none 0 0, .slice none 0 0, .int .i64 0, .int .i64 0, .int .i64 0, .int .i64 0, .int .i64 0] rfl rfl 38 _ HB2.out (by kernel_rfl) (by simp) (by simp [Value.oneCell']) ?_))
          refine bodyPost_ret (results_cell2 rfl _ _ _ g _ rfl (run_loadVar_row _ g _ _ _ _ _ (setRow_heap _ g _ _ _ _ HB2.out) Try.underlying38 rfl (by kernel_rfl))) rfl ?_
          exact ⟨lz, by rw [hD.out]; rfl, by rw [hD.out]; exact LayV.zero _ _, HF.out.row (.inr hgw.out)⟩
        · have h66' : ((n0 : Int) == 66) = false := by simp; omega
          have h66'' : ¬ (n0 : Int) = 66 := by omega
          have h66b : ((n0 : Int) != 66) = true := by simp; omega
          clear hBL
          go_wp2_with (first | (refine wpList_load_row rfl 38 (.tmp 4) rfl (g + 1) rfl 38 _ (0, 0) _ HB4.out Try.underlying38 rfl (by kernel_rfl) ?_) | (refine wpList_store_row rfl 38 (.tmp 2) (.tmp 44) rfl g #[.slice none 0 0, .slice none 0 0, .slice none 0 0, .slice none 0 0, .slice none 0 0, .int .i64 0, .int .i64 0, .int .i64 0, .int .i64 0, .int .i64 0] rfl rfl 38 _ HB2.out (by kernel_rfl) (by simp) (by simp [Value.oneCell']) ?_))
          refine bodyPost_ret (results_cell2 rfl _ _ _ g _ rfl (run_loadVar_row _ g _ _ _ _ _ (setRow_heap _ g _ _ _ _ HB2.out) Try.underlying38 rfl (by kernel_rfl))) rfl ?_
          exact ⟨lz, by rw [hD.out]; rfl, by rw [hD.out]; exact LayV.zero _ _, HF.out.row (.inr hgw.out)⟩
  · have hD : Hid (decAL p = (lnone, code p)) := by show decAL p = _; unfold decAL; rw [if_neg h0]
    obtain ⟨k, hk⟩ : ∃ k, code p = k := ⟨_, rfl⟩
    rw [hk] at h0 hD ⊢
    clear R F1 HO hk HCQ
    go_wp2_with (first | (refine wpList_load_row rfl 38 (.tmp 4) rfl (g + 1) rfl 38 _ (0, 0) _ HB4.out Try.underlying38 rfl (by kernel_rfl) ?_) | (refine wpList_store_row rfl 38 (.tmp 2) (.tmp 27) rfl g #[.slice none 0 0, .slice none 0 0, .slice none 0 0, .slice none 0 0, .slice none 0 0, .int .i64 0, .int .i64 0, .int .i64 0, .int .i64 0, .int .i64 0] rfl rfl 38 _ HB2.out (by kernel_rfl) (by simp) (by simp [Value.oneCell']) ?_))
    refine bodyPost_ret (results_cell2 rfl _ _ _ g _ rfl (run_loadVar_row _ g _ _ _ _ _ (setRow_heap _ g _ _ _ _ HB2.out) Try.underlying38 rfl (by kernel_rfl))) rfl ?_
    exact ⟨lz, by rw [hD.out]; rfl, by rw [hD.out]; exact LayV.zero _ _, HF.out.row (.inr hgw.out)⟩
end Go.Proofs.Ytfnlimcgoeknjaa
