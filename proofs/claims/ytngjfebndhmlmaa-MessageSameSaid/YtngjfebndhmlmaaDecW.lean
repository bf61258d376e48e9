import Derived.Test.YtngjfebndhmlmaaReadM
namespace Go.Proofs.Ytngjfebndhmlmaa
open Go.RowKit Go

theorem body_length (l : List UInt8) : (body l).length ≤ l.length := by
  unfold body
  split <;> simp

set_option maxRecDepth 20000 in
set_option maxHeartbeats 4000000 in
theorem decode_any {A : Option Addr} {c : Nat} {l : List UInt8} {w : World} (hl : Rd w A (bys l)) (hc : l.length ≤ c) (hlen : l.length ≤ 1000000) :
    Calls Try.prog 15 #[.slice A l.length c] w fun e w' => ∃ A' c', e = .returned (.tuple #[mval (decAll l).1 A' c', .int .i64 (decAll l).2]) ∧ Rd w' A' (ints .i64 (decAll l).1.tr) ∧ (∀ ad, A' = some ad → w.heap.size ≤ ad.block) ∧ Fr No w w' := by
  have F0 := (Fr.refl No w).alloc (.cells #[.int .u8 0, .int .i64 0, .int .i64 0, .int .i64 0, .int .i64 0, .bool false, .slice none 0 0] 34)
  have B0 : (w.alloc (.cells #[.int .u8 0, .int .i64 0, .int .i64 0, .int .i64 0, .int .i64 0, .bool false, .slice none 0 0] 34)).heap[w.heap.size]? = some (.cells #[.int .u8 0, .int .i64 0, .int .i64 0, .int .i64 0, .int .i64 0, .bool false, .slice none 0 0] 34 (0, 0)) := blk_new _ _
  have HO := Lib.hid (open_any (hl.no F0) hc (by omega))
  obtain ⟨g, hg⟩ : ∃ g, w.heap.size = g := ⟨_, rfl⟩
  rw [hg] at B0
  have HB := Lib.hid B0
  have HF := Lib.hid F0
  have hgw : Hid (w.heap.size ≤ g) := by show w.heap.size ≤ g; omega
  have hbl := Lib.hid (body_length l)
  clear hl B0 F0
  go_enter Try.func15, Try.ntmps15
  go_wp2_with fail
  refine HO.out.mono ?_
  rintro e w1 ⟨v, rfl, O, N, F1⟩
  replace HB := Lib.hid (F1.heap HB.out (fun k => k))
  replace HF := Lib.hid (HF.out.trans F1 (fun _ k => k.elim))
  by_cases h0 : code l = 0
  · rw [h0]
    obtain ⟨Q, cq, rfl, hQ, _, R⟩ := O.shape2
    rw [bys_length]
    have HN := Lib.hid (newReader_any (c := cq) R hQ (by have := hbl.out; omega))
    have hD : Hid (decAll l = ((decM (body l)).1, ((decM (body l)).2 : Int))) := by show decAll l = _; unfold decAll; rw [if_pos h0]
    clear O N F1 R h0 HO
    go_wp2_with fail
    refine HN.out.mono ?_
    rintro e w2 ⟨r, B2, d2, rfl, R2, hr, hB2, F2⟩
    have HRD := Lib.hid (read_any (show RdAt w2 r B2 d2 (body l) (0, false) from R2))
    have hgr : ¬ RS r g := by intro e; have e2 : g = r := e; have := blk_lt HB.out; omega
    replace HB := Lib.hid (F2.heap HB.out (fun k => k))
    have hrw := Lib.hid (Nat.le_trans HF.out.size hr)
    replace HF := Lib.hid (HF.out.trans F2 (fun _ k => k.elim))
    have Hgr := Lib.hid hgr
    clear R2 hr hB2 F2 hgr HN
    go_wp2_with fail
    refine HRD.out.mono ?_
    rintro e w3 ⟨A3, c3, rfl, RT, hA3, F3⟩
    have hAg : ∀ ad, A3 = some ad → ad.block ≠ g := fun ad e => by have h1 := hA3 ad e; have h2 := blk_lt HB.out; omega
    have hAw : ∀ ad, A3 = some ad → w.heap.size ≤ ad.block := fun ad e => Nat.le_trans HF.out.size (hA3 ad e)
    replace HB := Lib.hid (F3.heap HB.out Hgr.out)
    replace HF := Lib.hid (HF.out.trans F3 (fun i hi => .inr (by rw [show i = r from hi]; exact hrw.out)))
    have HRT := Lib.hid RT
    have HAG := Lib.hid hAg
    have HAW := Lib.hid hAw
    obtain ⟨m, hm⟩ : ∃ m, (decM (body l)).1 = m := ⟨_, rfl⟩
    obtain ⟨n, hn⟩ : ∃ n, (decM (body l)).2 = n := ⟨_, rfl⟩
    rw [hm] at HRT
    rw [hm, hn] at hD
    rw [hm, hn]
    clear RT hA3 F3 hAg hAw HRD hm hn
    unfold mval
    go_wp2_with (first | (refine wpList_store_row rfl 34 (.tmp 2) (.tmp 18) rfl g _ rfl rfl 34 _ HB.out (by kernel_rfl) rfl (by simp [Value.oneCell']) ?_))
    refine bodyPost_ret (results_cell2 rfl _ _ _ g _ rfl (run_loadVar_row _ g _ _ _ _ _ (setRow_heap _ g _ _ _ _ HB.out) Try.underlying34 rfl (by kernel_rfl))) rfl ?_
    exact ⟨A3, c3, by rw [hD.out]; rfl, by rw [hD.out]; exact HRT.out.row HAG.out _, HAW.out, HF.out.row (.inr hgw.out)⟩
  · have hD : Hid (decAll l = (mnone, code l)) := by show decAll l = _; unfold decAll; rw [if_neg h0]
    obtain ⟨k, hk⟩ : ∃ k, code l = k := ⟨_, rfl⟩
    rw [hk] at h0 hD ⊢
    obtain ⟨Q, cq, rfl, _, _, _⟩ := O.shape2
    clear O N F1 HO hk
    go_wp2_with (first | (refine wpList_store_row rfl 34 (.tmp 2) (.tmp 13) rfl g #[.int .u8 0, .int .i64 0, .int .i64 0, .int .i64 0, .int .i64 0, .bool false, .slice none 0 0] rfl rfl 34 _ HB.out (by kernel_rfl) rfl (by simp [Value.oneCell']) ?_))
    refine bodyPost_ret (results_cell2 rfl _ _ _ g _ rfl (run_loadVar_row _ g _ _ _ _ _ (setRow_heap _ g _ _ _ _ HB.out) Try.underlying34 rfl (by kernel_rfl))) rfl ?_
    exact ⟨none, 0, by rw [hD.out]; rfl, by rw [hD.out]; exact Rd.nil _ _, (fun _ e => by cases e), HF.out.row (.inr hgw.out)⟩
end Go.Proofs.Ytngjfebndhmlmaa
