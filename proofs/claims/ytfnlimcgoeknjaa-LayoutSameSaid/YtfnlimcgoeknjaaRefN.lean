import Derived.Test.YtfnlimcgoeknjaaLayM
namespace Go.Proofs.Ytfnlimcgoeknjaa
open Go.RowKit Go Fl

theorem Rows2.later {S : Nat → Prop} {w0 w w1 : World} {v : Value} {M : IL} (h : Rows2 w0 w v M) (hf : Fr S w w1) (hs : ∀ k, w0.heap.size ≤ k → k < w.heap.size → ¬ S k) : Rows2 w0 w1 v M :=
  ⟨h.own.fr hf (fun k hk => hs k (h.old k hk) (h.own.lt hk)), h.old, fun x hx => ⟨(h.rd x hx).1.fr hf (fun ad e => hs _ ((h.rd x hx).2.1 ad e).1 ((h.rd x hx).2.1 ad e).2.2), fun ad e => ⟨((h.rd x hx).2.1 ad e).1, ((h.rd x hx).2.1 ad e).2.1, Nat.lt_of_lt_of_le ((h.rd x hx).2.1 ad e).2.2 hf.size⟩, (h.rd x hx).2.2⟩⟩
theorem snoc_in {w w3 w5 : World} {g : Nat} {P : Nat → Prop} {l : List UInt8} {s : Pl} {v2 v3 : Value} (hr : g < w.heap.size) (hB : ∀ k, P k → k < w.heap.size) (N : New w v2) (R : InAt w3 g P l s) (F : Fr (RS g) w w3)
    (f5 : Fr (fun k => v2.ownBlock = some k) w3 w5) (a5 : v3.ownBlock = v2.ownBlock ∨ ∃ b, v3.ownBlock = some b ∧ w3.heap.size ≤ b) : New w v3 ∧ InAt w5 g P l s ∧ Fr (RS g) w w5 := by
  refine ⟨fun q hq => ?_, R.fr f5 (fun e => by have := N g e; omega) (fun k hk e2 => by have := N _ e2; have := hB k hk; omega), F.trans f5 (fun i hi => .inr (N i hi))⟩
  rcases a5 with e | ⟨b, e, hb⟩
  · rw [e] at hq; exact N q hq
  · rw [e] at hq; cases hq; exact Nat.le_trans F.size hb
theorem iget8 {w : World} {g : Nat} {P : Nat → Prop} {l : List UInt8} {s : Pl} (h : InAt w g P l s) :
    Calls Try.prog 62 #[.pointer (some ⟨g, 0, none⟩), .int .i64 8] w fun e w' => e = .returned (.int .u64 (gt l s 8 : Int)) ∧ InAt w' g P l (nx l s 8) ∧ Fr (RS g) w w' := iget_at h 8 8 rfl (by omega)

set_option maxRecDepth 20000 in
set_option maxHeartbeats 4000000 in
theorem rnested_any {w : World} {g : Nat} {P : Nat → Prop} {l : List UInt8} {s : Pl} (h : InAt w g P l s) (hP : ∀ k, P k → k < w.heap.size) :
    Calls Try.prog 64 #[.pointer (some ⟨g, 0, none⟩)] w fun e w' => ∃ v M, e = .returned v ∧ Rows2 w w' v M ∧ InAt w' g P l (liS (inN l) l s) ∧ Fr (RS g) w w' ∧ Hid ((liS (inN l) l s).2 = false → M.map (fun x => x.2.2) = (liL (inV l) (inN l) l s).map nats) := by
  have HG := Lib.hid (iget8 h)
  have hlt := gt_lt l s 8
  have hrl : Hid (g < w.heap.size) := h.lt
  have HP := Lib.hid hP
  unfold liL liS
  obtain ⟨n, hn⟩ : ∃ n, gt l s 8 = n := ⟨_, rfl⟩
  obtain ⟨s1, hs1⟩ : ∃ s1, nx l s 8 = s1 := ⟨_, rfl⟩
  rw [hn, hs1] at HG
  rw [hn] at hlt
  rw [hn, hs1]
  have i1 : IntKind.i64.wrap (n : Int) = (n : Int) := by rw [IntKind.wrap_i64]; omega
  clear h hn hs1 hP
  go_enter Try.func64, Try.ntmps64
  go_wp2_with fail
  refine HG.out.mono ?_
  rintro e w1 ⟨rfl, R1, F1⟩
  have HR1 := Lib.hid R1
  have HF1 := Lib.hid F1
  clear HG R1 F1
  go_wp2
  go_loopg [3, 5] n (fun gk u i wr => ∃ (k : Nat) (v2 : Value) (M : IL), k + gk = n ∧ v2 = u ∧ i = .int .i64 (k : Int) ∧ Hid (Rows2 w wr v2 M) ∧ Hid (((itS (inN l) s1 k).2 = false → M.map (fun x => x.2.2) = (itL (inV l) (inN l) s1 k).map nats) ∧ M.length = k) ∧ Hid (InAt wr g P l (itS (inN l) s1 k)) ∧ Hid (Fr (RS g) w wr))
  case atStart => exact ⟨0, _, [], by omega, rfl, rfl, Rows2.nil _ _, ⟨fun _ => rfl, rfl⟩, HR1, HF1⟩
  case round =>
    obtain ⟨k, v2, M, hk, rfl, rfl, HO, HN, HR, HF⟩ := hrel
    clear HR1 HF1 i1
    have cf := HR.out.failed
    by_cases hkn : k < n
    · have hki : (k : Int) < (n : Int) := by omega
      obtain ⟨b, hb⟩ : ∃ b, (itS (inN l) s1 k).2 = b := ⟨_, rfl⟩
      rw [hb] at cf
      have HB := Lib.hid hb
      cases b with
      | true =>
        clear hb
        go_wp2
        go_ret
        have hst := itS_stop (inN_stops l) HB.out gk
        rw [hk] at hst
        refine ⟨v2, M, rfl, HO.out, by rw [hst]; exact HR.out, HF.out, Lib.hid fun hx => ?_⟩
        rw [hst, HB.out] at hx
        cases hx
      | false =>
        have hsu : Hid (itS (inN l) s1 (k + 1) = inN l (itS (inN l) s1 k)) := rfl
        have hfl := Lib.hid (itL_succ (inV l) (inN l) s1 k)
        have HG := Lib.hid (iget8 HR.out)
        have mlt := gt_lt l (itS (inN l) s1 k) 8
        obtain ⟨m, hm⟩ : ∃ m, gt l (itS (inN l) s1 k) 8 = m := ⟨_, rfl⟩
        obtain ⟨t1, ht1⟩ : ∃ t1, nx l (itS (inN l) s1 k) 8 = t1 := ⟨_, rfl⟩
        have hN : Hid (inN l (itS (inN l) s1 k) = itS (tnN l) t1 m ∧ inV l (itS (inN l) s1 k) = itL (tnV l) (tnN l) t1 m) := by
          rw [← hm, ← ht1]; exact ⟨rfl, rfl⟩
        rw [hm, ht1] at HG
        rw [hm] at mlt
        have i2 : IntKind.i64.wrap (m : Int) = (m : Int) := by rw [IntKind.wrap_i64]; omega
        clear hb hm ht1
        go_wp2_with fail
        refine HG.out.mono ?_
        rintro e w3 ⟨rfl, R3, F3⟩
        replace HO := Lib.hid (HO.out.fr F3 (fun q hq e => by have e2 : q = g := e; have := hrl.out; omega))
        replace HF := Lib.hid (HF.out.trans F3 (fun i hi => .inl hi))
        have HR3 := Lib.hid R3
        have hrl3 : Hid (g < w3.heap.size) := R3.lt
        have HP3 : Hid (∀ k, P k → k < w3.heap.size) := fun k hk => Nat.lt_of_lt_of_le (HP.out k hk) HF.out.size
        clear R3 F3 HG HR cf
        go_wp2
        go_loopg [6, 8] m (fun gk u i wr => ∃ (j : Nat) (v4 : Value), j + gk = m ∧ v4 = u ∧ i = .int .i64 (j : Int) ∧ Hid (OwnK wr 3 1 v4 j ((itL (tnV l) (tnN l) t1 j).flatMap in1)) ∧ Hid (New w3 v4) ∧ Hid (InAt wr g P l (itS (tnN l) t1 j)) ∧ Hid (Fr (RS g) w3 wr))
        case atStart => exact ⟨0, _, by omega, rfl, rfl, OwnK.nil _ _ _, (fun k e => by simp [Value.ownBlock] at e), HR3, Fr.refl _ _⟩
        case round =>
          obtain ⟨j, v4, hj, rfl, rfl, HO4, HN4, HR4, HF4⟩ := hrel
          clear HR3 i2
          have cf := HR4.out.failed
          obtain ⟨b, hb⟩ : ∃ b, (itS (tnN l) t1 j).2 = b := ⟨_, rfl⟩
          rw [hb] at cf
          have HB4 := Lib.hid hb
          have hend : (j = m ∨ b = true) → itS (tnN l) t1 j = inN l (itS (inN l) s1 k) := by
            rintro (e | e)
            · rw [hN.out.1, e]
            · have hst := itS_stop (tnN_stops l) (hb.trans e) gk
              rw [hj] at hst
              rw [hN.out.1, hst]
          have HEnd := Lib.hid hend
          have hco : (inN l (itS (inN l) s1 k)).2 = false → (j = m ∨ b = true) → itL (tnV l) (tnN l) t1 j = inV l (itS (inN l) s1 k) := by
            intro h1 h2
            rw [← hend h2, hb] at h1
            rcases h2 with e | e
            · rw [hN.out.2, e]
            · rw [e] at h1; cases h1
          have HCo := Lib.hid hco
          clear hb hend hco
          by_cases hgo : j < m ∧ b = false
          · obtain ⟨hjm, rfl⟩ := hgo
            have hji : (j : Int) < (m : Int) := by omega
            have HG := Lib.hid (iget8 HR4.out)
            have ylt := gt_lt l (itS (tnN l) t1 j) 8
            have hsu4 : Hid (itS (tnN l) t1 (j + 1) = nx l (itS (tnN l) t1 j) 8) := rfl
            have hfl4 := Lib.hid (itL_flat (tnV l) (tnN l) t1 in1 j)
            have hyv : Hid (tnV l (itS (tnN l) t1 j) = gt l (itS (tnN l) t1 j) 8) := rfl
            obtain ⟨y, hy⟩ : ∃ y, gt l (itS (tnN l) t1 j) 8 = y := ⟨_, rfl⟩
            rw [hy] at HG ylt hyv
            have i3 : IntKind.i64.wrap (y : Int) = (y : Int) := by rw [IntKind.wrap_i64]; omega
            clear hy
            go_wp2_with fail
            refine HG.out.mono ?_
            rintro e w5 ⟨rfl, R5, F5⟩
            rw [← hsu4.out] at R5
            have HO5 := Lib.hid (HO4.out.fr F5 (fun q hq e => by have e2 : q = g := e; have := HN4.out q hq; have := hrl3.out; omega))
            have HF5 := Lib.hid (HF4.out.trans F5 (fun i hi => .inl hi))
            have HR5 := Lib.hid R5
            clear R5 F5 HG HO4 HF4 HR4 cf
            go_wp2_with (at_builtin; go_loud (refine own_append_k rfl (.tmp 39) (.tmp 43) 49 3 (.int .i64 0) 1 8 rfl Try.underlying49 infoInt rfl (by decide) (by decide) _ j ((itL (tnV l) (tnN l) t1 j).flatMap in1) _ _ rfl rfl rfl rfl (by simp [Value.oneCell']) HO5.out ?hl ?_))
            case hl => omega
            intro v5 w6 o6 f6 a6
            obtain ⟨N6, R6, F6⟩ := snoc_in hrl3.out HP3.out HN4.out HR5.out HF5.out f6 a6
            have O6 : OwnK w6 3 1 v5 (j + 1) ((itL (tnV l) (tnN l) t1 (j + 1)).flatMap in1) := by rw [hfl4.out, hyv.out]; exact o6
            have H1 := Lib.hid O6
            have H2 := Lib.hid F6
            have H3 := Lib.hid N6
            have H4 := Lib.hid R6
            clear o6 f6 a6 N6 R6 F6 O6 HO5 HF5 HR5
            go_wp2
            go_roundg (m - (j + 1))
            case measure => omega
            case rel => exact ⟨j + 1, v5, by omega, rfl, by go_num, H1, H3, H4, H2⟩
          · have hex : j = m ∨ b = true := by
              by_cases e : j = m
              · exact .inl e
              · right
                cases b with
                | true => rfl
                | false => exact absurd ⟨by omega, rfl⟩ hgo
            have hpl := Lib.hid (HEnd.out hex)
            have hco := Lib.hid (fun h1 => HCo.out h1 hex)
            obtain ⟨A4, c4, rfl, _, hz4, hB4, RX⟩ := HO4.out.shape
            have HO2 := Lib.hid (HO.out.later HF4.out (fun q hq _ e => by have e2 : q = g := e; have := hrl.out; omega))
            have NB : ∀ ad, A4 = some ad → w.heap.size ≤ ad.block ∧ v2.ownBlock ≠ some ad.block ∧ ad.block < wr.heap.size := by
              intro ad e
              have hq := hB4 ad e
              have h1 := HN4.out _ hq
              refine ⟨Nat.le_trans HF.out.size h1, fun e2 => ?_, HO4.out.lt hq⟩
              have := HO.out.own.lt e2
              omega
            have hxl : (nats (itL (tnV l) (tnN l) t1 j)).length = j := by simp [nats, itL_length]
            have HRX : Hid (Rd wr A4 (ints .i64 (nats (itL (tnV l) (tnN l) t1 j)))) := by show Rd _ _ _; exact rd_in1 (by rw [itL_length]; exact RX)
            have HNB := Lib.hid NB
            have HZ4 := Lib.hid hz4
            have HXL := Lib.hid hxl
            have HF7 := Lib.hid (HF.out.trans HF4.out (fun i hi => .inl hi))
            have HRR : Hid (InAt wr g P l (itS (inN l) s1 (k + 1))) := by show InAt _ _ _ _ _; rw [hsu.out, ← hpl.out]; exact HR4.out
            have cases2 : (j = m) ∨ (j < m ∧ b = true) := by
              rcases hex with e | e
              · exact .inl e
              · by_cases e2 : j = m
                · exact .inl e2
                · exact .inr ⟨by omega, e⟩
            clear NB hxl hz4 hB4 RX hex hgo HR4 HO4 HN4
            rcases cases2 with hjm | ⟨hjm, rfl⟩
            · have hji : ¬ (j : Int) < (m : Int) := by omega
              clear cf
              go_wp2_with (at_builtin; go_loud (refine own_append_k rfl (.tmp 45) (.tmp 47) 35 49 (.slice none 0 0) 1 24 rfl Try.underlying35 infoII rfl (by decide) (by decide) _ M.length (ilv M) _ _ rfl rfl rfl rfl (by simp [Value.oneCell']) HO2.out.own (by rw [HN.out.2]; omega) ?_))
              intro v7 w7 o7 f7 a7
              obtain ⟨N7, R7, F7⟩ := snoc_in hrl.out HP.out HO2.out.old HRR.out HF7.out f7 a7
              have O7 : Rows2 w w7 v7 (M ++ [(A4, c4, nats (itL (tnV l) (tnN l) t1 j))]) := HO2.out.snoc (x := (A4, c4, nats (itL (tnV l) (tnN l) t1 j))) (by rw [HXL.out]; first | exact o7 | (rw [hjm]; exact o7)) f7 a7 HF7.out.size HRX.out HNB.out HZ4.out
              have E7 : ((itS (inN l) s1 (k + 1)).2 = false → (M ++ [(A4, c4, nats (itL (tnV l) (tnN l) t1 j))]).map (fun x => x.2.2) = (itL (inV l) (inN l) s1 (k + 1)).map nats) ∧ (M ++ [(A4, c4, nats (itL (tnV l) (tnN l) t1 j))]).length = k + 1 := by
                refine ⟨fun h1 => ?_, by rw [List.length_append, HN.out.2]; rfl⟩
                rw [hfl.out, List.map_append, List.map_append, HN.out.1 HB.out, hco.out (by rw [← hsu.out]; exact h1)]
                rfl
              have H1 := Lib.hid O7
              have H2 := Lib.hid F7
              have H3 := Lib.hid E7
              have H4 := Lib.hid R7
              clear o7 f7 a7 N7 R7 F7 O7 E7 HO2 HF7 HRR
              go_wp2
              go_roundg (n - (k + 1))
              case measure => omega
              case rel => exact ⟨k + 1, v7, M ++ [(A4, c4, nats (itL (tnV l) (tnN l) t1 j))], by omega, rfl, by go_num, H1, H3, H4, H2⟩
            · have hji : (j : Int) < (m : Int) := by omega
              go_wp2_with (at_builtin; go_loud (refine own_append_k rfl (.tmp 45) (.tmp 47) 35 49 (.slice none 0 0) 1 24 rfl Try.underlying35 infoII rfl (by decide) (by decide) _ M.length (ilv M) _ _ rfl rfl rfl rfl (by simp [Value.oneCell']) HO2.out.own (by rw [HN.out.2]; omega) ?_))
              intro v7 w7 o7 f7 a7
              obtain ⟨N7, R7, F7⟩ := snoc_in hrl.out HP.out HO2.out.old HRR.out HF7.out f7 a7
              have O7 : Rows2 w w7 v7 (M ++ [(A4, c4, nats (itL (tnV l) (tnN l) t1 j))]) := HO2.out.snoc (x := (A4, c4, nats (itL (tnV l) (tnN l) t1 j))) (by rw [HXL.out]; first | exact o7 | (rw [hjm]; exact o7)) f7 a7 HF7.out.size HRX.out HNB.out HZ4.out
              have E7 : ((itS (inN l) s1 (k + 1)).2 = false → (M ++ [(A4, c4, nats (itL (tnV l) (tnN l) t1 j))]).map (fun x => x.2.2) = (itL (inV l) (inN l) s1 (k + 1)).map nats) ∧ (M ++ [(A4, c4, nats (itL (tnV l) (tnN l) t1 j))]).length = k + 1 := by
                refine ⟨fun h1 => ?_, by rw [List.length_append, HN.out.2]; rfl⟩
                rw [hfl.out, List.map_append, List.map_append, HN.out.1 HB.out, hco.out (by rw [← hsu.out]; exact h1)]
                rfl
              have H1 := Lib.hid O7
              have H2 := Lib.hid F7
              have H3 := Lib.hid E7
              have H4 := Lib.hid R7
              clear o7 f7 a7 N7 R7 F7 O7 E7 HO2 HF7 HRR
              go_wp2
              go_roundg (n - (k + 1))
              case measure => omega
              case rel => exact ⟨k + 1, v7, M ++ [(A4, c4, nats (itL (tnV l) (tnN l) t1 j))], by omega, rfl, by go_num, H1, H3, H4, H2⟩
    · obtain rfl : k = n := by omega
      clear cf
      go_wp2
      go_ret
      exact ⟨v2, M, rfl, HO.out, HR.out, HF.out, Lib.hid HN.out.1⟩
end Go.Proofs.Ytfnlimcgoeknjaa
