import Derived.Test.YtfnlimcgoeknjaaLeafL
namespace Go.Proofs.Ytfnlimcgoeknjaa
open Go.RowKit Go Fl

theorem infoC : (Try.prog.info? 45).map (fun i => (i.zero, i.size, i.bytes)) = some (some (.complex .f64 0 0), 1, 16) := by kernel_rfl
def cx1 (x : Int × Int) : List Value := [cxc x]
theorem cx1_len (x : Int × Int) : (cx1 x).length = 1 := rfl
theorem snoc_fr {w w3 w5 : World} {r : Nat} {B : Option Addr} {d : Nat} {l : List UInt8} {s : Pl} {v2 v3 : Value} (hr : r < w.heap.size) (hB : ∀ ad, B = some ad → ad.block < w.heap.size) (N : New w v2) (R : RdAt w3 r B d l s) (F : Fr (RS r) w w3)
    (f5 : Fr (fun k => v2.ownBlock = some k) w3 w5) (a5 : v3.ownBlock = v2.ownBlock ∨ ∃ b, v3.ownBlock = some b ∧ w3.heap.size ≤ b) : New w v3 ∧ RdAt w5 r B d l s ∧ Fr (RS r) w w5 := by
  refine ⟨fun q hq => ?_, R.fr f5 (fun e => by have := N r e; omega) (fun ad e e2 => by have := N _ e2; have := hB ad e; omega), F.trans f5 (fun i hi => .inr (N i hi))⟩
  rcases a5 with e | ⟨b, e, hb⟩
  · rw [e] at hq; exact N q hq
  · rw [e] at hq; cases hq; exact Nat.le_trans F.size hb
theorem itL_flat {α : Type} (g : Pl → α) (f : Pl → Pl) (s : Pl) (c : α → List Value) (k : Nat) : (itL g f s (k + 1)).flatMap c = (itL g f s k).flatMap c ++ c (g (itS f s k)) := by
  show (itL g f s k ++ [g (itS f s k)]).flatMap c = _
  rw [List.flatMap_append]
  simp

set_option maxRecDepth 20000 in
set_option maxHeartbeats 4000000 in
theorem listC_any {w : World} {c r : Nat} {B : Option Addr} {d : Nat} {l : List UInt8} {s : Pl} (h : RdAt w r B d l s) (hc : Cap w c r) :
    Calls Try.prog 30 #[.pointer (some ⟨r, 0, none⟩), .func (.func 31) #[] #[.pointer (some ⟨c, 0, none⟩)]] w fun e w' => ∃ v xs, e = .returned v ∧ OwnK w' 45 1 v xs.length (xs.flatMap cx1) ∧ New w v ∧ RdAt w' r B d l (liS (cxN l) l s) ∧ Fr (RS r) w w' ∧ Hid ((liS (cxN l) l s).2 = false → xs = liL (cxV l) (cxN l) l s) := by
  have HG := Lib.hid (get_at h 8 8 rfl)
  have hlt := gt_lt l s 8
  have hrl : Hid (r < w.heap.size) := blk_lt h.blk
  have hBl : Hid (∀ ad, B = some ad → ad.block < w.heap.size) := h.lt
  have HC := Lib.hid hc
  unfold liL liS
  obtain ⟨n, hn⟩ : ∃ n, gt l s 8 = n := ⟨_, rfl⟩
  obtain ⟨s1, hs1⟩ : ∃ s1, nx l s 8 = s1 := ⟨_, rfl⟩
  rw [hn, hs1] at HG
  rw [hn] at hlt
  rw [hn, hs1]
  clear h hn hs1 hc
  go_enter Try.func30, Try.ntmps30
  go_wp2_with fail
  refine HG.out.mono ?_
  rintro e w1 ⟨rfl, R1, F1⟩
  have HR1 := Lib.hid R1
  have HF1 := Lib.hid F1
  clear HG R1 F1
  go_wp2
  go_loopg [5, 9] n (fun gk u i wr => ∃ (k : Nat) (v2 : Value), k + gk = n ∧ v2 = u ∧ i = .int .u64 (k : Int) ∧ Hid (OwnK wr 45 1 v2 k ((itL (cxV l) (cxN l) s1 k).flatMap cx1)) ∧ Hid (New w v2) ∧ Hid (RdAt wr r B d l (itS (cxN l) s1 k)) ∧ Hid (Fr (RS r) w wr))
  case atStart => exact ⟨0, _, by omega, rfl, rfl, OwnK.nil _ _ _, (fun k e => by simp [Value.ownBlock] at e), HR1, HF1⟩
  case round =>
    obtain ⟨k, v2, hk, rfl, rfl, HO, HN, HR, HF⟩ := hrel
    clear HR1 HF1
    by_cases hkn : k < n
    · have HD := Lib.hid (dec1_any HR.out (HC.out.rs HF.out))
      have hsu : Hid (itS (cxN l) s1 (k + 1) = cxN l (itS (cxN l) s1 k)) := rfl
      have hfl := Lib.hid (itL_flat (cxV l) (cxN l) s1 cx1 k)
      obtain ⟨y, hy⟩ : ∃ y, cxV l (itS (cxN l) s1 k) = y := ⟨_, rfl⟩
      rw [hy] at HD hfl
      clear hy
      unfold cxc at HD
      go_wp2_with fail
      refine HD.out.mono ?_
      rintro e w3 ⟨rfl, R3, F3⟩
      rw [← hsu.out] at R3
      have hok := ok_any R3
      obtain ⟨b, hb⟩ : ∃ b, (itS (cxN l) s1 (k + 1)).2 = b := ⟨_, rfl⟩
      rw [hb] at hok
      have hvr : ∀ q, v2.ownBlock = some q → q ≠ r := fun q hq e => by have := HN.out q hq; have := hrl.out; omega
      have HO3 := Lib.hid (HO.out.fr F3 (fun q hq e => hvr q hq e))
      have HF3 := Lib.hid (HF.out.trans F3 (fun i hi => .inl hi))
      have HR3 := Lib.hid R3
      have HOK := Lib.hid hok
      have HB := Lib.hid hb
      have HVR := Lib.hid hvr
      clear R3 F3 HO HF HR HD hok hb hvr
      cases b with
      | true =>
        go_wp2_with fail
        refine HOK.out.mono ?_
        rintro e w4 ⟨rfl, rfl⟩
        go_wp2
        go_ret
        refine ⟨.slice none 0 0, [], rfl, OwnK.nil _ _ _, (fun k e => by simp [Value.ownBlock] at e), ?_, HF3.out, Lib.hid fun hx => ?_⟩
        · have hst := itS_stop (cxN_stops l) HB.out (gk - 1)
          rw [show k + 1 + (gk - 1) = n by omega] at hst
          rw [hst]
          exact HR3.out
        · have hst := itS_stop (cxN_stops l) HB.out (gk - 1)
          rw [show k + 1 + (gk - 1) = n by omega] at hst
          rw [hst, HB.out] at hx
          cases hx
      | false =>
        go_wp2_with fail
        refine HOK.out.mono ?_
        rintro e w4 ⟨rfl, rfl⟩
        go_wp2_with (at_builtin; go_loud (refine own_append_k rfl (.tmp 16) (.tmp 18) 33 45 (.complex .f64 0 0) 1 16 rfl Try.underlying33 infoC rfl (by decide) (by decide) _ k ((itL (cxV l) (cxN l) s1 k).flatMap cx1) _ _ rfl rfl rfl rfl (by simp [Value.oneCell']) HO3.out ?hl ?_))
        case hl => omega
        intro v3 w5 o5 f5 a5
        obtain ⟨N5, R5, F5⟩ := snoc_fr hrl.out hBl.out HN.out HR3.out HF3.out f5 a5
        have O5 : OwnK w5 45 1 v3 (k + 1) ((itL (cxV l) (cxN l) s1 (k + 1)).flatMap cx1) := by rw [hfl.out]; exact o5
        have H1 := Lib.hid O5
        have H2 := Lib.hid F5
        have H3 := Lib.hid N5
        have H4 := Lib.hid R5
        clear o5 f5 a5 N5 R5 F5 O5 HO3 HF3 HR3 HOK HVR
        go_wp2
        go_roundg (n - (k + 1))
        case measure => omega
        case rel => exact ⟨k + 1, v3, by omega, rfl, by go_num, H1, H3, H4, H2⟩
    · obtain rfl : k = n := by omega
      go_wp2
      go_ret
      exact ⟨v2, _, rfl, by rw [itL_length]; exact HO.out, HN.out, HR.out, HF.out, Lib.hid fun _ => rfl⟩
end Go.Proofs.Ytfnlimcgoeknjaa

namespace Go.Proofs.Ytfnlimcgoeknjaa
open Go.RowKit Go Fl

theorem infoInt : (Try.prog.info? 3).map (fun i => (i.zero, i.size, i.bytes)) = some (some (.int .i64 0), 1, 8) := by kernel_rfl
def in1 (x : Nat) : List Value := [.int .i64 (x : Int)]

set_option maxRecDepth 20000 in
set_option maxHeartbeats 4000000 in
theorem listI_any {w : World} {c r : Nat} {B : Option Addr} {d : Nat} {l : List UInt8} {s : Pl} (h : RdAt w r B d l s) (hc : Cap w c r) :
    Calls Try.prog 71 #[.pointer (some ⟨r, 0, none⟩), .func (.func 72) #[] #[.pointer (some ⟨c, 0, none⟩)]] w fun e w' => ∃ v xs, e = .returned v ∧ OwnK w' 3 1 v xs.length (xs.flatMap in1) ∧ New w v ∧ RdAt w' r B d l (liS (tnN l) l s) ∧ Fr (RS r) w w' ∧ Hid ((liS (tnN l) l s).2 = false → xs = liL (tnV l) (tnN l) l s) := by
  have HG := Lib.hid (get_at h 8 8 rfl)
  have hlt := gt_lt l s 8
  have hrl : Hid (r < w.heap.size) := blk_lt h.blk
  have hBl : Hid (∀ ad, B = some ad → ad.block < w.heap.size) := h.lt
  have HC := Lib.hid hc
  unfold liL liS
  obtain ⟨n, hn⟩ : ∃ n, gt l s 8 = n := ⟨_, rfl⟩
  obtain ⟨s1, hs1⟩ : ∃ s1, nx l s 8 = s1 := ⟨_, rfl⟩
  rw [hn, hs1] at HG
  rw [hn] at hlt
  rw [hn, hs1]
  clear h hn hs1 hc
  go_enter Try.func71, Try.ntmps71
  go_wp2_with fail
  refine HG.out.mono ?_
  rintro e w1 ⟨rfl, R1, F1⟩
  have HR1 := Lib.hid R1
  have HF1 := Lib.hid F1
  clear HG R1 F1
  go_wp2
  go_loopg [5, 9] n (fun gk u i wr => ∃ (k : Nat) (v2 : Value), k + gk = n ∧ v2 = u ∧ i = .int .u64 (k : Int) ∧ Hid (OwnK wr 3 1 v2 k ((itL (tnV l) (tnN l) s1 k).flatMap in1)) ∧ Hid (New w v2) ∧ Hid (RdAt wr r B d l (itS (tnN l) s1 k)) ∧ Hid (Fr (RS r) w wr))
  case atStart => exact ⟨0, _, by omega, rfl, rfl, OwnK.nil _ _ _, (fun k e => by simp [Value.ownBlock] at e), HR1, HF1⟩
  case round =>
    obtain ⟨k, v2, hk, rfl, rfl, HO, HN, HR, HF⟩ := hrel
    clear HR1 HF1
    by_cases hkn : k < n
    · have HD := Lib.hid (decI_any HR.out (HC.out.rs HF.out))
      have hsu : Hid (itS (tnN l) s1 (k + 1) = tnN l (itS (tnN l) s1 k)) := rfl
      have hfl := Lib.hid (itL_flat (tnV l) (tnN l) s1 in1 k)
      obtain ⟨y, hy⟩ : ∃ y, tnV l (itS (tnN l) s1 k) = y := ⟨_, rfl⟩
      rw [hy] at HD hfl
      clear hy
      go_wp2_with fail
      refine HD.out.mono ?_
      rintro e w3 ⟨rfl, R3, F3⟩
      rw [← hsu.out] at R3
      have hok := ok_any R3
      obtain ⟨b, hb⟩ : ∃ b, (itS (tnN l) s1 (k + 1)).2 = b := ⟨_, rfl⟩
      rw [hb] at hok
      have hvr : ∀ q, v2.ownBlock = some q → q ≠ r := fun q hq e => by have := HN.out q hq; have := hrl.out; omega
      have HO3 := Lib.hid (HO.out.fr F3 (fun q hq e => hvr q hq e))
      have HF3 := Lib.hid (HF.out.trans F3 (fun i hi => .inl hi))
      have HR3 := Lib.hid R3
      have HOK := Lib.hid hok
      have HB := Lib.hid hb
      have HVR := Lib.hid hvr
      clear R3 F3 HO HF HR HD hok hb hvr
      cases b with
      | true =>
        go_wp2_with fail
        refine HOK.out.mono ?_
        rintro e w4 ⟨rfl, rfl⟩
        go_wp2
        go_ret
        refine ⟨.slice none 0 0, [], rfl, OwnK.nil _ _ _, (fun k e => by simp [Value.ownBlock] at e), ?_, HF3.out, Lib.hid fun hx => ?_⟩
        · have hst := itS_stop (tnN_stops l) HB.out (gk - 1)
          rw [show k + 1 + (gk - 1) = n by omega] at hst
          rw [hst]
          exact HR3.out
        · have hst := itS_stop (tnN_stops l) HB.out (gk - 1)
          rw [show k + 1 + (gk - 1) = n by omega] at hst
          rw [hst, HB.out] at hx
          cases hx
      | false =>
        go_wp2_with fail
        refine HOK.out.mono ?_
        rintro e w4 ⟨rfl, rfl⟩
        go_wp2_with (at_builtin; go_loud (refine own_append_k rfl (.tmp 16) (.tmp 18) 49 3 (.int .i64 0) 1 8 rfl Try.underlying49 infoInt rfl (by decide) (by decide) _ k ((itL (tnV l) (tnN l) s1 k).flatMap in1) _ _ rfl rfl rfl rfl (by simp [Value.oneCell']) HO3.out ?hl ?_))
        case hl => omega
        intro v3 w5 o5 f5 a5
        obtain ⟨N5, R5, F5⟩ := snoc_fr hrl.out hBl.out HN.out HR3.out HF3.out f5 a5
        have O5 : OwnK w5 3 1 v3 (k + 1) ((itL (tnV l) (tnN l) s1 (k + 1)).flatMap in1) := by rw [hfl.out]; exact o5
        have H1 := Lib.hid O5
        have H2 := Lib.hid F5
        have H3 := Lib.hid N5
        have H4 := Lib.hid R5
        clear o5 f5 a5 N5 R5 F5 O5 HO3 HF3 HR3 HOK HVR
        go_wp2
        go_roundg (n - (k + 1))
        case measure => omega
        case rel => exact ⟨k + 1, v3, by omega, rfl, by go_num, H1, H3, H4, H2⟩
    · obtain rfl : k = n := by omega
      go_wp2
      go_ret
      exact ⟨v2, _, rfl, by rw [itL_length]; exact HO.out, HN.out, HR.out, HF.out, Lib.hid fun _ => rfl⟩
end Go.Proofs.Ytfnlimcgoeknjaa

namespace Go.Proofs.Ytfnlimcgoeknjaa
open Go.RowKit Go Fl

theorem infoS : (Try.prog.info? 48).map (fun i => (i.zero, i.size, i.bytes)) = some (some (.agg #[.int .i64 0, .int .i64 0, .int .i64 0]), 3, 24) := by kernel_rfl

set_option maxRecDepth 20000 in
set_option maxHeartbeats 4000000 in
theorem listS_any {w : World} {c r : Nat} {B : Option Addr} {d : Nat} {l : List UInt8} {s : Pl} (h : RdAt w r B d l s) (hc : Cap w c r) :
    Calls Try.prog 33 #[.pointer (some ⟨r, 0, none⟩), .func (.func 34) #[] #[.pointer (some ⟨c, 0, none⟩)]] w fun e w' => ∃ v xs, e = .returned v ∧ OwnK w' 48 3 v xs.length (xs.flatMap sec) ∧ New w v ∧ RdAt w' r B d l (liS (seN l) l s) ∧ Fr (RS r) w w' ∧ Hid ((liS (seN l) l s).2 = false → xs = liL (seV l) (seN l) l s) := by
  have HG := Lib.hid (get_at h 8 8 rfl)
  have hlt := gt_lt l s 8
  have hrl : Hid (r < w.heap.size) := blk_lt h.blk
  have hBl : Hid (∀ ad, B = some ad → ad.block < w.heap.size) := h.lt
  have HC := Lib.hid hc
  unfold liL liS
  obtain ⟨n, hn⟩ : ∃ n, gt l s 8 = n := ⟨_, rfl⟩
  obtain ⟨s1, hs1⟩ : ∃ s1, nx l s 8 = s1 := ⟨_, rfl⟩
  rw [hn, hs1] at HG
  rw [hn] at hlt
  rw [hn, hs1]
  clear h hn hs1 hc
  go_enter Try.func33, Try.ntmps33
  go_wp2_with fail
  refine HG.out.mono ?_
  rintro e w1 ⟨rfl, R1, F1⟩
  have HR1 := Lib.hid R1
  have HF1 := Lib.hid F1
  clear HG R1 F1
  go_wp2
  go_loopg [5, 9] n (fun gk u i wr => ∃ (k : Nat) (v2 : Value), k + gk = n ∧ v2 = u ∧ i = .int .u64 (k : Int) ∧ Hid (OwnK wr 48 3 v2 k ((itL (seV l) (seN l) s1 k).flatMap sec)) ∧ Hid (New w v2) ∧ Hid (RdAt wr r B d l (itS (seN l) s1 k)) ∧ Hid (Fr (RS r) w wr))
  case atStart => exact ⟨0, _, by omega, rfl, rfl, OwnK.nil _ _ _, (fun k e => by simp [Value.ownBlock] at e), HR1, HF1⟩
  case round =>
    obtain ⟨k, v2, hk, rfl, rfl, HO, HN, HR, HF⟩ := hrel
    clear HR1 HF1
    by_cases hkn : k < n
    · have HD := Lib.hid (dec2_any HR.out (HC.out.rs HF.out))
      have hsu : Hid (itS (seN l) s1 (k + 1) = seN l (itS (seN l) s1 k)) := rfl
      have hfl := Lib.hid (itL_flat (seV l) (seN l) s1 sec k)
      obtain ⟨y, hy⟩ : ∃ y, seV l (itS (seN l) s1 k) = y := ⟨_, rfl⟩
      rw [hy] at HD hfl
      clear hy
      obtain ⟨y0, y1, y2⟩ := y
      unfold sec i64c at HD
      simp only at HD
      go_wp2_with fail
      refine HD.out.mono ?_
      rintro e w3 ⟨rfl, R3, F3⟩
      rw [← hsu.out] at R3
      have FA := (Fr.refl No w3).alloc (.cells #[.int .i64 (y0 : Int), .int .i64 (y1 : Int), .int .i64 (y2 : Int)] 48)
      have hok := ok_any (R3.fr FA (fun k => k) (fun _ _ k => k))
      obtain ⟨b, hb⟩ : ∃ b, (itS (seN l) s1 (k + 1)).2 = b := ⟨_, rfl⟩
      rw [hb] at hok
      have hvr : ∀ q, v2.ownBlock = some q → q ≠ r := fun q hq e => by have := HN.out q hq; have := hrl.out; omega
      have HO3 := Lib.hid ((HO.out.fr F3 (fun q hq e => hvr q hq e)).no FA)
      have HF3 := Lib.hid ((HF.out.trans F3 (fun i hi => .inl hi)).trans FA (fun _ k => k.elim))
      have HR3 := Lib.hid (R3.fr FA (fun k => k) (fun _ _ k => k))
      have HOK := Lib.hid hok
      have HB := Lib.hid hb
      have HVR := Lib.hid hvr
      clear R3 F3 FA HO HF HR HD hok hb hvr
      cases b with
      | true =>
        go_wp2_with fail
        refine HOK.out.mono ?_
        rintro e w4 ⟨rfl, rfl⟩
        go_wp2
        go_ret
        refine ⟨.slice none 0 0, [], rfl, OwnK.nil _ _ _, (fun k e => by simp [Value.ownBlock] at e), ?_, HF3.out, Lib.hid fun hx => ?_⟩
        · have hst := itS_stop (seN_stops l) HB.out (gk - 1)
          rw [show k + 1 + (gk - 1) = n by omega] at hst
          rw [hst]
          exact HR3.out
        · have hst := itS_stop (seN_stops l) HB.out (gk - 1)
          rw [show k + 1 + (gk - 1) = n by omega] at hst
          rw [hst, HB.out] at hx
          cases hx
      | false =>
        go_wp2_with fail
        refine HOK.out.mono ?_
        rintro e w4 ⟨rfl, rfl⟩
        go_wp2_with (at_builtin; go_loud (refine own_append_k rfl (.tmp 16) (.tmp 18) 34 48 (.agg #[.int .i64 0, .int .i64 0, .int .i64 0]) 3 24 rfl Try.underlying34 infoS rfl (by decide) (by decide) _ k ((itL (seV l) (seN l) s1 k).flatMap sec) _ _ rfl rfl (by simp) rfl (by simp [Value.oneCell']) HO3.out ?hl ?_))
        case hl => omega
        intro v3 w5 o5 f5 a5
        obtain ⟨N5, R5, F5⟩ := snoc_fr hrl.out hBl.out HN.out HR3.out HF3.out f5 (by simpa using a5)
        have O5 : OwnK w5 48 3 v3 (k + 1) ((itL (seV l) (seN l) s1 (k + 1)).flatMap sec) := by rw [hfl.out]; exact o5
        have H1 := Lib.hid O5
        have H2 := Lib.hid F5
        have H3 := Lib.hid N5
        have H4 := Lib.hid R5
        clear o5 f5 a5 N5 R5 F5 O5 HO3 HF3 HR3 HOK HVR
        go_wp2
        go_roundg (n - (k + 1))
        case measure => omega
        case rel => exact ⟨k + 1, v3, by omega, rfl, by go_num, H1, H3, H4, H2⟩
    · obtain rfl : k = n := by omega
      go_wp2
      go_ret
      exact ⟨v2, _, rfl, by rw [itL_length]; exact HO.out, HN.out, HR.out, HF.out, Lib.hid fun _ => rfl⟩
end Go.Proofs.Ytfnlimcgoeknjaa

namespace Go.Proofs.Ytfnlimcgoeknjaa
open Go.RowKit Go Fl

theorem infoP : (Try.prog.info? 51).map (fun i => (i.zero, i.size, i.bytes)) = some (some (.agg #[.int .i64 0, .int .i64 0, .int .i64 0, .int .i64 0]), 4, 32) := by kernel_rfl

set_option maxRecDepth 20000 in
set_option maxHeartbeats 4000000 in
theorem listP_any {w : World} {c r : Nat} {B : Option Addr} {d : Nat} {l : List UInt8} {s : Pl} (h : RdAt w r B d l s) (hc : Cap w c r) :
    Calls Try.prog 38 #[.pointer (some ⟨r, 0, none⟩), .func (.func 39) #[] #[.pointer (some ⟨c, 0, none⟩)]] w fun e w' => ∃ v xs, e = .returned v ∧ OwnK w' 51 4 v xs.length (xs.flatMap poc) ∧ New w v ∧ RdAt w' r B d l (liS (poN l) l s) ∧ Fr (RS r) w w' ∧ Hid ((liS (poN l) l s).2 = false → xs = liL (poV l) (poN l) l s) := by
  have HG := Lib.hid (get_at h 8 8 rfl)
  have hlt := gt_lt l s 8
  have hrl : Hid (r < w.heap.size) := blk_lt h.blk
  have hBl : Hid (∀ ad, B = some ad → ad.block < w.heap.size) := h.lt
  have HC := Lib.hid hc
  unfold liL liS
  obtain ⟨n, hn⟩ : ∃ n, gt l s 8 = n := ⟨_, rfl⟩
  obtain ⟨s1, hs1⟩ : ∃ s1, nx l s 8 = s1 := ⟨_, rfl⟩
  rw [hn, hs1] at HG
  rw [hn] at hlt
  rw [hn, hs1]
  clear h hn hs1 hc
  go_enter Try.func38, Try.ntmps38
  go_wp2_with fail
  refine HG.out.mono ?_
  rintro e w1 ⟨rfl, R1, F1⟩
  have HR1 := Lib.hid R1
  have HF1 := Lib.hid F1
  clear HG R1 F1
  go_wp2
  go_loopg [5, 9] n (fun gk u i wr => ∃ (k : Nat) (v2 : Value), k + gk = n ∧ v2 = u ∧ i = .int .u64 (k : Int) ∧ Hid (OwnK wr 51 4 v2 k ((itL (poV l) (poN l) s1 k).flatMap poc)) ∧ Hid (New w v2) ∧ Hid (RdAt wr r B d l (itS (poN l) s1 k)) ∧ Hid (Fr (RS r) w wr))
  case atStart => exact ⟨0, _, by omega, rfl, rfl, OwnK.nil _ _ _, (fun k e => by simp [Value.ownBlock] at e), HR1, HF1⟩
  case round =>
    obtain ⟨k, v2, hk, rfl, rfl, HO, HN, HR, HF⟩ := hrel
    clear HR1 HF1
    by_cases hkn : k < n
    · have HD := Lib.hid (dec3_any HR.out (HC.out.rs HF.out))
      have hsu : Hid (itS (poN l) s1 (k + 1) = poN l (itS (poN l) s1 k)) := rfl
      have hfl := Lib.hid (itL_flat (poV l) (poN l) s1 poc k)
      obtain ⟨y, hy⟩ : ∃ y, poV l (itS (poN l) s1 k) = y := ⟨_, rfl⟩
      rw [hy] at HD hfl
      clear hy
      obtain ⟨y0, y1, y2, y3⟩ := y
      unfold poc i64c at HD
      simp only at HD
      go_wp2_with fail
      refine HD.out.mono ?_
      rintro e w3 ⟨rfl, R3, F3⟩
      rw [← hsu.out] at R3
      have FA := (Fr.refl No w3).alloc (.cells #[.int .i64 (y0 : Int), .int .i64 (y1 : Int), .int .i64 (y2 : Int), .int .i64 (y3 : Int)] 51)
      have hok := ok_any (R3.fr FA (fun k => k) (fun _ _ k => k))
      obtain ⟨b, hb⟩ : ∃ b, (itS (poN l) s1 (k + 1)).2 = b := ⟨_, rfl⟩
      rw [hb] at hok
      have hvr : ∀ q, v2.ownBlock = some q → q ≠ r := fun q hq e => by have := HN.out q hq; have := hrl.out; omega
      have HO3 := Lib.hid ((HO.out.fr F3 (fun q hq e => hvr q hq e)).no FA)
      have HF3 := Lib.hid ((HF.out.trans F3 (fun i hi => .inl hi)).trans FA (fun _ k => k.elim))
      have HR3 := Lib.hid (R3.fr FA (fun k => k) (fun _ _ k => k))
      have HOK := Lib.hid hok
      have HB := Lib.hid hb
      have HVR := Lib.hid hvr
      clear R3 F3 FA HO HF HR HD hok hb hvr
      cases b with
      | true =>
        go_wp2_with fail
        refine HOK.out.mono ?_
        rintro e w4 ⟨rfl, rfl⟩
        go_wp2
        go_ret
        refine ⟨.slice none 0 0, [], rfl, OwnK.nil _ _ _, (fun k e => by simp [Value.ownBlock] at e), ?_, HF3.out, Lib.hid fun hx => ?_⟩
        · have hst := itS_stop (poN_stops l) HB.out (gk - 1)
          rw [show k + 1 + (gk - 1) = n by omega] at hst
          rw [hst]
          exact HR3.out
        · have hst := itS_stop (poN_stops l) HB.out (gk - 1)
          rw [show k + 1 + (gk - 1) = n by omega] at hst
          rw [hst, HB.out] at hx
          cases hx
      | false =>
        go_wp2_with fail
        refine HOK.out.mono ?_
        rintro e w4 ⟨rfl, rfl⟩
        go_wp2_with (at_builtin; go_loud (refine own_append_k rfl (.tmp 16) (.tmp 18) 36 51 (.agg #[.int .i64 0, .int .i64 0, .int .i64 0, .int .i64 0]) 4 32 rfl Try.underlying36 infoP rfl (by decide) (by decide) _ k ((itL (poV l) (poN l) s1 k).flatMap poc) _ _ rfl rfl (by simp) rfl (by simp [Value.oneCell']) HO3.out ?hl ?_))
        case hl => omega
        intro v3 w5 o5 f5 a5
        obtain ⟨N5, R5, F5⟩ := snoc_fr hrl.out hBl.out HN.out HR3.out HF3.out f5 (by simpa using a5)
        have O5 : OwnK w5 51 4 v3 (k + 1) ((itL (poV l) (poN l) s1 (k + 1)).flatMap poc) := by rw [hfl.out]; exact o5
        have H1 := Lib.hid O5
        have H2 := Lib.hid F5
        have H3 := Lib.hid N5
        have H4 := Lib.hid R5
        clear o5 f5 a5 N5 R5 F5 O5 HO3 HF3 HR3 HOK HVR
        go_wp2
        go_roundg (n - (k + 1))
        case measure => omega
        case rel => exact ⟨k + 1, v3, by omega, rfl, by go_num, H1, H3, H4, H2⟩
    · obtain rfl : k = n := by omega
      go_wp2
      go_ret
      exact ⟨v2, _, rfl, by rw [itL_length]; exact HO.out, HN.out, HR.out, HF.out, Lib.hid fun _ => rfl⟩
end Go.Proofs.Ytfnlimcgoeknjaa
