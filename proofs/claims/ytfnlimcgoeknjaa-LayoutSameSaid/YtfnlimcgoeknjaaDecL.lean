import Derived.Test.YtfnlimcgoeknjaaLayM
import Derived.Laws.BytesArg
import Derived.Laws.IdiomStrings
import Derived.Deep.MidRow
namespace Go.Proofs.Ytfnlimcgoeknjaa
open Go.RowKit Go Fl

theorem results_cell2 {fn : Func} {t u : Tmp} {ty : TypeId} (h : fn.results = #[.cell t ty, .tmp u]) (tmps : Array Value) (P : Program) (w : World) (g : Nat) (cs : Array Value)
    (ht : tmps.getD t undef = .pointer (some ⟨g, 0, none⟩)) (hl : (loadVar ty ⟨g, 0, none⟩).run P w = .ok (.agg cs) w) :
    (results fn tmps).run P w = .ok (.tuple #[.agg cs, tmps.getD u undef]) w := by
  have ht' : tmps[t]?.getD undef = .pointer (some ⟨g, 0, none⟩) := by simpa using ht
  simp only [results, h]
  simp [ht', asAddr, hl]
theorem Rd.drop {w : World} {b : Nat} {o : Nat} {l : List UInt8} (h : Rd w (some ⟨b, o, none⟩) (bys l)) (m : Nat) : Rd w (some ⟨b, o + m, none⟩) (bys (l.drop m)) := by
  refine ⟨by have := h.1; rw [bys_length] at this ⊢; rw [List.length_drop]; omega, fun j hj => ⟨_, rfl, ?_⟩⟩
  rw [bys_length, List.length_drop] at hj
  obtain ⟨a, e, hc⟩ := h.2 (m + j) (by rw [bys_length]; omega)
  cases e
  rw [Addr.add_mid] at hc ⊢
  rw [show o + m + j = o + (m + j) by omega, hc, bys_getD _ (by omega), bys_getD _ (by rw [List.length_drop]; omega)]
  simp [List.getD_eq_getElem?_getD]

theorem ten5 {w : World} {g : Nat} {t : TypeId} {c0 c1 c2 c3 c4 c5 c6 c7 c8 c9 : Value} (h : w.heap[g]? = some (.cells #[c0, c1, c2, c3, c4, c5, c6, c7, c8, c9] t (0, 0))) :
    w.cell? ⟨g, 5, none⟩ = some c5 ∧ w.cell? ⟨g, 6, none⟩ = some c6 ∧ w.cell? ⟨g, 7, none⟩ = some c7 ∧ w.cell? ⟨g, 8, none⟩ = some c8 ∧ w.cell? ⟨g, 9, none⟩ = some c9 ∧
    w.frozen? ⟨g, 5, none⟩ = false ∧ w.frozen? ⟨g, 6, none⟩ = false ∧ w.frozen? ⟨g, 7, none⟩ = false ∧ w.frozen? ⟨g, 8, none⟩ = false ∧ w.frozen? ⟨g, 9, none⟩ = false := by
  refine ⟨?_, ?_, ?_, ?_, ?_, blk_free h 5, blk_free h 6, blk_free h 7, blk_free h 8, blk_free h 9⟩ <;> (rw [blk_cell h]; rfl)

set_option maxRecDepth 20000 in
set_option maxHeartbeats 8000000 in
theorem ldecode_any {A : Option Addr} {c : Nat} {p : List UInt8} {w : World} (hl : Rd w A (bys p)) (hc : p.length ≤ c) (hlen : p.length ≤ 1000000) :
    Calls Try.prog 16 #[.slice A p.length c] w fun e w' => ∃ C, e = .returned (.tuple #[.agg C, .int .i64 (decAL p).2]) ∧ LayV w.heap.size w' (decAL p).1 C ∧ Fr No w w' := by
  have F0 := (Fr.refl No w).alloc (.cells #[.slice none 0 0, .slice none 0 0, .slice none 0 0, .slice none 0 0, .slice none 0 0, .int .i64 0, .int .i64 0, .int .i64 0, .int .i64 0, .int .i64 0] 38)
  have B0 : (w.alloc (.cells #[.slice none 0 0, .slice none 0 0, .slice none 0 0, .slice none 0 0, .slice none 0 0, .int .i64 0, .int .i64 0, .int .i64 0, .int .i64 0, .int .i64 0] 38)).heap[w.heap.size]? = some (.cells #[.slice none 0 0, .slice none 0 0, .slice none 0 0, .slice none 0 0, .slice none 0 0, .int .i64 0, .int .i64 0, .int .i64 0, .int .i64 0, .int .i64 0] 38 (0, 0)) := blk_new _ _
  have HO := Lib.hid (open_any (hl.no F0) hc (by omega))
  have hbl : (body p).length ≤ p.length := by unfold body; split <;> simp
  have hmf : ∀ (fn : Fn) (first cap : Array Value) (w : World), (Instr.makeFunc fn first cap).run Try.prog w = .ok (.func fn first cap) w := fun _ _ _ _ => rfl
  obtain ⟨g, hg⟩ : ∃ g, w.heap.size = g := ⟨_, rfl⟩
  rw [hg] at B0
  have hgw : Hid (w.heap.size ≤ g) := by show w.heap.size ≤ g; omega
  have HB := Lib.hid B0
  have HF := Lib.hid F0
  clear hl F0 B0
  go_enter Try.func16, Try.ntmps16
  go_wp2_with fail
  refine HO.out.mono ?_
  rintro e w1 ⟨v, rfl, O, N, F1⟩
  replace HB := Lib.hid (F1.heap HB.out (fun k => k))
  replace HF := Lib.hid (HF.out.trans F1 (fun _ k => k.elim))
  by_cases h0 : code p = 0
  · obtain ⟨q, hq⟩ : ∃ q, body p = q := ⟨_, rfl⟩
    rw [hq] at O hbl
    by_cases hBL : q.take 2 = [66, 76]
    · obtain ⟨l, hlq⟩ : ∃ l, q.drop 2 = l := ⟨_, rfl⟩
      have hD : Hid (decAL p = ((decL l).1, ((decL l).2 : Int))) := by show decAL p = _; unfold decAL; rw [if_pos h0, hq, if_pos hBL, hlq]
      have hqe : q = 66 :: 76 :: l := by
        rw [← hlq]
        match q, hBL with
        | [], h => simp at h
        | [_], h => simp at h
        | x :: y :: r, h => simp at h; rw [h.1, h.2]; rfl
      obtain ⟨n, hn⟩ : ∃ n, l.length = n := ⟨_, rfl⟩
      have hqn : q.length = n + 2 := by rw [hqe]; simp [hn]
      obtain ⟨gq, cq, rfl, hcq, _, _, _, _, hcl, _⟩ := O.form (by rw [bys_length]; omega)
      have OR := O.rd.1
      rw [bys_length] at hcq
      rw [h0, bys_length, hqn]
      have hcv := run_convert_bytes_back (P := Try.prog) w1 22 9 5 ⟨gq, 0, none⟩ cq [66, 76] Try.underlying22 Try.underlying5 Try.underlying9 (fun j hj => by
        rw [addr_add0]
        match j, hj with
        | 0, _ => rw [hcl 0 (by rw [bys_length]; omega), bys_getD _ (by omega), hqe]; rfl
        | 1, _ => rw [hcl 1 (by rw [bys_length]; omega), bys_getD _ (by omega), hqe]; rfl)
      have hcv2 : (convert 22 9 (.slice (some ⟨gq, 0, none⟩) 2 cq)).run Try.prog w1 = .ok (.string ⟨[66, 76].toArray⟩) w1 := hcv
      obtain ⟨S, hS⟩ : ∃ S : ByteArray, ⟨([66, 76] : List UInt8).toArray⟩ = S := ⟨_, rfl⟩
      rw [hS] at hcv2
      have hSl : S.toList = [66, 76] := by rw [← hS]; exact ByteArray.toList_mk _
      obtain ⟨m, rfl⟩ : ∃ m, cq = m + 2 := ⟨cq - 2, by omega⟩
      have RL : ∃ a2 : Addr, (if m = 0 then a2 = ⟨gq, 0, none⟩ else a2 = ⟨gq, 2, none⟩) ∧ Rd w1 (some a2) (bys l) := by
        by_cases hm : m = 0
        · have : l = [] := List.eq_nil_of_length_eq_zero (by omega)
          exact ⟨⟨gq, 0, none⟩, by rw [if_pos hm], by rw [this]; exact Rd.nil _ _⟩
        · refine ⟨⟨gq, 2, none⟩, by rw [if_neg hm], ?_⟩
          have := Rd.drop OR 2
          rw [hlq] at this
          simpa using this
      obtain ⟨a2, ha2, RL2⟩ := RL
      have HN := Lib.hid (newReader_any (c := m) RL2 (fun h => by cases h) (by omega))
      have hnm : n ≤ m := by omega
      rw [hn] at HN
      have HNl := Lib.hid hn
      clear O N F1 HO hq hBL h0 hcl hcv hS hlq hqe hqn OR RL2 hn hcq hbl
      go_upto_region 6 with (fail)
      go_cut [6] (fun p6 wc => ∃ r cc B2 d2, p6 = .pointer (some ⟨cc, 0, none⟩) ∧ Hid (RdAt wc r B2 d2 l (0, false) ∧ Cap wc cc r ∧ wc.heap[g]? = some (.cells #[.slice none 0 0, .slice none 0 0, .slice none 0 0, .slice none 0 0, .slice none 0 0, .int .i64 0, .int .i64 0, .int .i64 0, .int .i64 0, .int .i64 0] 38 (0, 0)) ∧ Fr No w wc ∧ (w.heap.size ≤ r ∧ w.heap.size ≤ cc ∧ g ≠ r ∧ g ≠ cc) ∧ w.heap.size ≤ g ∧ ∀ ad, B2 = some ad → w.heap.size ≤ ad.block))
      case first =>
        rcases Nat.eq_zero_or_pos m with rfl | hm
        all_goals
          (first
            | (rw [if_pos rfl] at ha2; obtain rfl := ha2; obtain rfl : n = 0 := (by omega))
            | (rw [if_neg (Nat.ne_of_gt hm)] at ha2; obtain rfl := ha2))
          go_wp2_with fail
          refine HN.out.mono ?_
          rintro e w2 ⟨r, B2, d2, rfl, R2, hr, hB2, F2⟩
          have b2 := F2.heap HB.out (fun k => k)
          have f2 := HF.out.trans F2 (fun _ k => k.elim)
          have fc := (Fr.refl No w2).alloc (.cells #[.pointer (some ⟨r, 0, none⟩)] 67)
          have hrl : r < w2.heap.size := blk_lt R2.blk
          have hgl : g < w1.heap.size := blk_lt HB.out
          have hK : Hid (RdAt (w2.alloc (.cells #[.pointer (some ⟨r, 0, none⟩)] 67)) r B2 d2 l (0, false) ∧ Cap (w2.alloc (.cells #[.pointer (some ⟨r, 0, none⟩)] 67)) w2.heap.size r ∧ (w2.alloc (.cells #[.pointer (some ⟨r, 0, none⟩)] 67)).heap[g]? = some (.cells #[.slice none 0 0, .slice none 0 0, .slice none 0 0, .slice none 0 0, .slice none 0 0, .int .i64 0, .int .i64 0, .int .i64 0, .int .i64 0, .int .i64 0] 38 (0, 0)) ∧ Fr No w (w2.alloc (.cells #[.pointer (some ⟨r, 0, none⟩)] 67)) ∧ (w.heap.size ≤ r ∧ w.heap.size ≤ w2.heap.size ∧ g ≠ r ∧ g ≠ w2.heap.size) ∧ w.heap.size ≤ g ∧ ∀ ad, B2 = some ad → w.heap.size ≤ ad.block) := by
            refine ⟨RdAt.fr R2 fc (fun k => k) (fun _ _ k => k), ⟨by rw [blk_cell (blk_new _ _)]; rfl, by omega⟩, fc.heap b2 (fun k => k), f2.trans fc (fun _ k => k.elim), ⟨Nat.le_trans HF.out.size hr, f2.size, by omega, by have := F2.size; omega⟩, hgw.out, fun ad e => Nat.le_trans HF.out.size (hB2 ad e)⟩
          clear R2 hr hB2 F2 b2 f2 fc hrl hgl
          go_wp2
          go_meet
          case rel => exact ⟨r, w2.heap.size, B2, d2, rfl, hK⟩
      case rest =>
        obtain ⟨r, cc, B2, d2, rfl, HK⟩ := hcut
        clear HN ha2 hcv2 hSl hnm HB HF
        -- BEGIN
        obtain ⟨kr, kc, kb, kf, ⟨lr, lc, gr, gc⟩, lg, lB⟩ := HK.out
        have fa := (Fr.refl No wc).alloc (.cells #[.slice none 0 0, .slice none 0 0, .slice none 0 0, .slice none 0 0, .slice none 0 0, .int .i64 0, .int .i64 0, .int .i64 0, .int .i64 0, .int .i64 0] 38)
        have ba : (wc.alloc (.cells #[.slice none 0 0, .slice none 0 0, .slice none 0 0, .slice none 0 0, .slice none 0 0, .int .i64 0, .int .i64 0, .int .i64 0, .int .i64 0, .int .i64 0] 38)).heap[wc.heap.size]? = some (.cells #[.slice none 0 0, .slice none 0 0, .slice none 0 0, .slice none 0 0, .slice none 0 0, .int .i64 0, .int .i64 0, .int .i64 0, .int .i64 0, .int .i64 0] 38 (0, 0)) := blk_new _ _
        have lr2 : r < wc.heap.size := blk_lt kr.blk
        have lc2 : cc < wc.heap.size := World.block_lt_of_cell? wc _ kc.1
        have lg2 : g < wc.heap.size := blk_lt kb
        have lB2 : ∀ ad, B2 = some ad → ad.block < wc.heap.size := kr.lt
        obtain ⟨h, hh⟩ : ∃ h, wc.heap.size = h := ⟨_, rfl⟩
        rw [hh] at ba lr2 lc2 lg2 lB2
        obtain ⟨W0, hW0⟩ : ∃ W, wc.alloc (.cells #[.slice none 0 0, .slice none 0 0, .slice none 0 0, .slice none 0 0, .slice none 0 0, .int .i64 0, .int .i64 0, .int .i64 0, .int .i64 0, .int .i64 0] 38) = W := ⟨_, rfl⟩
        rw [hW0] at fa ba
        have hS : Hid ((¬ RS r h ∧ ¬ RS r g) ∧ cc ≠ h ∧ g ≠ h ∧ w.heap.size ≤ r ∧ w.heap.size ≤ h ∧ r < h ∧ ∀ ad, B2 = some ad → ad.block ≠ h) := by
          refine ⟨⟨fun e => ?_, fun e => gr e⟩, by omega, by omega, lr, ?_, lr2, fun ad e => ?_⟩
          · have e2 : h = r := e
            omega
          · omega
          · have := lB2 ad e
            omega
        have hgh : Hid (g < h) := lg2
        have HR := Lib.hid (RdAt.fr kr fa (fun k => k) (fun _ _ k => k))
        have HC := Lib.hid (kc.no fa)
        have HB := Lib.hid (fa.heap kb (fun k => k))
        have HB7 := Lib.hid ba
        have HF := Lib.hid (kf.trans fa (fun _ k => k.elim))
        have HL0 : Hid (w.heap.size ≤ W0.heap.size ∧ h + 1 ≤ W0.heap.size) := ⟨HF.out.size, blk_lt HB7.out⟩
        clear HK kr kc kb kf lr lc gr gc lg lB fa ba lr2 lc2 lg2 lB2
        -- no
        have c0 := HC.out.1
        have HL := Lib.hid (listC_any HR.out HC.out)
        go_wp2_with fail
        refine HL.out.mono ?_
        rintro e w1a ⟨v, x1, rfl, O, N, R, F, E⟩
        obtain ⟨A1, c1, rfl, hn1, hz1, P1⟩ := RdN.own O N
        have HE1 := Lib.hid E
        have b7 := F.heap HB7.out hS.out.1.1
        have qc : w1a.cell? ⟨h, 0, none⟩ = some (.slice none 0 0) := by rw [blk_cell b7]; rfl
        have qf := blk_free b7 0
        have fs := (Fr.refl (fun k => k = h) w1a).setCell (p := ⟨h, 0, none⟩) (.inl rfl) (.slice A1 x1.length c1)
        have b8 : (w1a.setCell ⟨h, 0, none⟩ (.slice A1 x1.length c1)).heap[h]? = some (.cells #[.slice A1 x1.length c1, .slice none 0 0, .slice none 0 0, .slice none 0 0, .slice none 0 0, .int .i64 0, .int .i64 0, .int .i64 0, .int .i64 0, .int .i64 0] 38 (0, 0)) := blk_set b7 0 _
        obtain ⟨W1, hW1⟩ : ∃ W, w1a.setCell ⟨h, 0, none⟩ (.slice A1 x1.length c1) = W := ⟨_, rfl⟩
        rw [hW1] at fs b8
        replace HB := Lib.hid (fs.heap (F.heap HB.out hS.out.1.2) hS.out.2.2.1)
        replace HB7 := Lib.hid b8
        replace HR := Lib.hid (RdAt.fr R fs (fun e => hS.out.1.1 (Eq.symm e)) (fun ad e => hS.out.2.2.2.2.2.2 ad e))
        replace HC := Lib.hid (show Cap W1 cc r from ⟨fs.cell (HC.out.rs F).1 hS.out.2.1, HC.out.2⟩)
        have HP1 := Lib.hid ((P1.mono (c := h + 1) (by have h1 := HL0.out.2; omega)).fr fs (fun k hk e => by have e2 : k = h := e; omega))
        replace HF := Lib.hid ((HF.out.trans F (fun i hi => .inr (by rw [show i = r from hi]; exact hS.out.2.2.2.1))).trans fs (fun i hi => .inr (by rw [show i = h from hi]; exact hS.out.2.2.2.2.1)))
        have HLS : Hid (W0.heap.size ≤ W1.heap.size) := Nat.le_trans F.size fs.size
        clear HL c0 O N R F E P1 b7 fs b8 hW0
        -- se
        have c0 := HC.out.1
        have HL := Lib.hid (listS_any HR.out HC.out)
        go_wp2_with fail
        refine HL.out.mono ?_
        rintro e w2a ⟨v, x2, rfl, O, N, R, F, E⟩
        obtain ⟨A2, c2, rfl, hn2, hz2, P2⟩ := RdN.own O N
        have HE2 := Lib.hid E
        have b7 := F.heap HB7.out hS.out.1.1
        have qc : w2a.cell? ⟨h, 1, none⟩ = some (.slice none 0 0) := by rw [blk_cell b7]; rfl
        have qf := blk_free b7 1
        have fs := (Fr.refl (fun k => k = h) w2a).setCell (p := ⟨h, 1, none⟩) (.inl rfl) (.slice A2 x2.length c2)
        have b8 : (w2a.setCell ⟨h, 1, none⟩ (.slice A2 x2.length c2)).heap[h]? = some (.cells #[.slice A1 x1.length c1, .slice A2 x2.length c2, .slice none 0 0, .slice none 0 0, .slice none 0 0, .int .i64 0, .int .i64 0, .int .i64 0, .int .i64 0, .int .i64 0] 38 (0, 0)) := blk_set b7 1 _
        obtain ⟨W2, hW2⟩ : ∃ W, w2a.setCell ⟨h, 1, none⟩ (.slice A2 x2.length c2) = W := ⟨_, rfl⟩
        rw [hW2] at fs b8
        replace HB := Lib.hid (fs.heap (F.heap HB.out hS.out.1.2) hS.out.2.2.1)
        replace HB7 := Lib.hid b8
        replace HR := Lib.hid (RdAt.fr R fs (fun e => hS.out.1.1 (Eq.symm e)) (fun ad e => hS.out.2.2.2.2.2.2 ad e))
        replace HC := Lib.hid (show Cap W2 cc r from ⟨fs.cell (HC.out.rs F).1 hS.out.2.1, HC.out.2⟩)
        replace HP1 := Lib.hid ((HP1.out.fr F (fun k hk e => by have e2 : k = r := e; have := hS.out.2.2.2.2.2.1; omega)).fr fs (fun k hk e => by have e2 : k = h := e; omega))
        have HP2 := Lib.hid ((P2.mono (c := h + 1) (by have h1 := HL0.out.2; have h2 := HLS.out; omega)).fr fs (fun k hk e => by have e2 : k = h := e; omega))
        replace HF := Lib.hid ((HF.out.trans F (fun i hi => .inr (by rw [show i = r from hi]; exact hS.out.2.2.2.1))).trans fs (fun i hi => .inr (by rw [show i = h from hi]; exact hS.out.2.2.2.2.1)))
        replace HLS : Hid (W0.heap.size ≤ W2.heap.size) := Nat.le_trans HLS.out (Nat.le_trans F.size fs.size)
        clear HL c0 O N R F E P2 b7 fs b8 hW1
        -- pa
        have c0 := HC.out.1
        have HL := Lib.hid (nested_any HR.out)
        go_wp2_with fail
        refine HL.out.mono ?_
        rintro e w3a ⟨v, M3, rfl, O, R, F, E⟩
        obtain ⟨A3, c3, rfl, hn3, hz3, P3⟩ := Rd2.own O
        have HE3 := Lib.hid E
        have b7 := F.heap HB7.out hS.out.1.1
        have qc : w3a.cell? ⟨h, 2, none⟩ = some (.slice none 0 0) := by rw [blk_cell b7]; rfl
        have qf := blk_free b7 2
        have fs := (Fr.refl (fun k => k = h) w3a).setCell (p := ⟨h, 2, none⟩) (.inl rfl) (.slice A3 M3.length c3)
        have b8 : (w3a.setCell ⟨h, 2, none⟩ (.slice A3 M3.length c3)).heap[h]? = some (.cells #[.slice A1 x1.length c1, .slice A2 x2.length c2, .slice A3 M3.length c3, .slice none 0 0, .slice none 0 0, .int .i64 0, .int .i64 0, .int .i64 0, .int .i64 0, .int .i64 0] 38 (0, 0)) := blk_set b7 2 _
        obtain ⟨W3, hW3⟩ : ∃ W, w3a.setCell ⟨h, 2, none⟩ (.slice A3 M3.length c3) = W := ⟨_, rfl⟩
        rw [hW3] at fs b8
        replace HB := Lib.hid (fs.heap (F.heap HB.out hS.out.1.2) hS.out.2.2.1)
        replace HB7 := Lib.hid b8
        replace HR := Lib.hid (RdAt.fr R fs (fun e => hS.out.1.1 (Eq.symm e)) (fun ad e => hS.out.2.2.2.2.2.2 ad e))
        replace HC := Lib.hid (show Cap W3 cc r from ⟨fs.cell (HC.out.rs F).1 hS.out.2.1, HC.out.2⟩)
        replace HP1 := Lib.hid ((HP1.out.fr F (fun k hk e => by have e2 : k = r := e; have := hS.out.2.2.2.2.2.1; omega)).fr fs (fun k hk e => by have e2 : k = h := e; omega))
        replace HP2 := Lib.hid ((HP2.out.fr F (fun k hk e => by have e2 : k = r := e; have := hS.out.2.2.2.2.2.1; omega)).fr fs (fun k hk e => by have e2 : k = h := e; omega))
        have HP3 := Lib.hid ((P3.mono (c := h + 1) (by have h1 := HL0.out.2; have h2 := HLS.out; omega)).fr fs (fun k hk e => by have e2 : k = h := e; omega))
        replace HF := Lib.hid ((HF.out.trans F (fun i hi => .inr (by rw [show i = r from hi]; exact hS.out.2.2.2.1))).trans fs (fun i hi => .inr (by rw [show i = h from hi]; exact hS.out.2.2.2.2.1)))
        replace HLS : Hid (W0.heap.size ≤ W3.heap.size) := Nat.le_trans HLS.out (Nat.le_trans F.size fs.size)
        clear HL c0 O R F E P3 b7 fs b8 hW2
        -- po
        have c0 := HC.out.1
        have HL := Lib.hid (listP_any HR.out HC.out)
        go_wp2_with fail
        refine HL.out.mono ?_
        rintro e w4a ⟨v, x4, rfl, O, N, R, F, E⟩
        obtain ⟨A4, c4, rfl, hn4, hz4, P4⟩ := RdN.own O N
        have HE4 := Lib.hid E
        have b7 := F.heap HB7.out hS.out.1.1
        have qc : w4a.cell? ⟨h, 3, none⟩ = some (.slice none 0 0) := by rw [blk_cell b7]; rfl
        have qf := blk_free b7 3
        have fs := (Fr.refl (fun k => k = h) w4a).setCell (p := ⟨h, 3, none⟩) (.inl rfl) (.slice A4 x4.length c4)
        have b8 : (w4a.setCell ⟨h, 3, none⟩ (.slice A4 x4.length c4)).heap[h]? = some (.cells #[.slice A1 x1.length c1, .slice A2 x2.length c2, .slice A3 M3.length c3, .slice A4 x4.length c4, .slice none 0 0, .int .i64 0, .int .i64 0, .int .i64 0, .int .i64 0, .int .i64 0] 38 (0, 0)) := blk_set b7 3 _
        obtain ⟨W4, hW4⟩ : ∃ W, w4a.setCell ⟨h, 3, none⟩ (.slice A4 x4.length c4) = W := ⟨_, rfl⟩
        rw [hW4] at fs b8
        replace HB := Lib.hid (fs.heap (F.heap HB.out hS.out.1.2) hS.out.2.2.1)
        replace HB7 := Lib.hid b8
        replace HR := Lib.hid (RdAt.fr R fs (fun e => hS.out.1.1 (Eq.symm e)) (fun ad e => hS.out.2.2.2.2.2.2 ad e))
        replace HC := Lib.hid (show Cap W4 cc r from ⟨fs.cell (HC.out.rs F).1 hS.out.2.1, HC.out.2⟩)
        replace HP1 := Lib.hid ((HP1.out.fr F (fun k hk e => by have e2 : k = r := e; have := hS.out.2.2.2.2.2.1; omega)).fr fs (fun k hk e => by have e2 : k = h := e; omega))
        replace HP2 := Lib.hid ((HP2.out.fr F (fun k hk e => by have e2 : k = r := e; have := hS.out.2.2.2.2.2.1; omega)).fr fs (fun k hk e => by have e2 : k = h := e; omega))
        replace HP3 := Lib.hid ((HP3.out.fr F (fun k hk e => by have e2 : k = r := e; have := hS.out.2.2.2.2.2.1; omega)).fr fs (fun k hk e => by have e2 : k = h := e; omega))
        have HP4 := Lib.hid ((P4.mono (c := h + 1) (by have h1 := HL0.out.2; have h2 := HLS.out; omega)).fr fs (fun k hk e => by have e2 : k = h := e; omega))
        replace HF := Lib.hid ((HF.out.trans F (fun i hi => .inr (by rw [show i = r from hi]; exact hS.out.2.2.2.1))).trans fs (fun i hi => .inr (by rw [show i = h from hi]; exact hS.out.2.2.2.2.1)))
        replace HLS : Hid (W0.heap.size ≤ W4.heap.size) := Nat.le_trans HLS.out (Nat.le_trans F.size fs.size)
        clear HL c0 O N R F E P4 b7 fs b8 hW3
        -- ro
        have c0 := HC.out.1
        have HL := Lib.hid (nested_any HR.out)
        go_wp2_with fail
        refine HL.out.mono ?_
        rintro e w5a ⟨v, M5, rfl, O, R, F, E⟩
        obtain ⟨A5, c5, rfl, hn5, hz5, P5⟩ := Rd2.own O
        have HE5 := Lib.hid E
        have b7 := F.heap HB7.out hS.out.1.1
        have qc : w5a.cell? ⟨h, 4, none⟩ = some (.slice none 0 0) := by rw [blk_cell b7]; rfl
        have qf := blk_free b7 4
        have fs := (Fr.refl (fun k => k = h) w5a).setCell (p := ⟨h, 4, none⟩) (.inl rfl) (.slice A5 M5.length c5)
        have b8 : (w5a.setCell ⟨h, 4, none⟩ (.slice A5 M5.length c5)).heap[h]? = some (.cells #[.slice A1 x1.length c1, .slice A2 x2.length c2, .slice A3 M3.length c3, .slice A4 x4.length c4, .slice A5 M5.length c5, .int .i64 0, .int .i64 0, .int .i64 0, .int .i64 0, .int .i64 0] 38 (0, 0)) := blk_set b7 4 _
        obtain ⟨W5, hW5⟩ : ∃ W, w5a.setCell ⟨h, 4, none⟩ (.slice A5 M5.length c5) = W := ⟨_, rfl⟩
        rw [hW5] at fs b8
        replace HB := Lib.hid (fs.heap (F.heap HB.out hS.out.1.2) hS.out.2.2.1)
        replace HB7 := Lib.hid b8
        replace HR := Lib.hid (RdAt.fr R fs (fun e => hS.out.1.1 (Eq.symm e)) (fun ad e => hS.out.2.2.2.2.2.2 ad e))
        replace HC := Lib.hid (show Cap W5 cc r from ⟨fs.cell (HC.out.rs F).1 hS.out.2.1, HC.out.2⟩)
        replace HP1 := Lib.hid ((HP1.out.fr F (fun k hk e => by have e2 : k = r := e; have := hS.out.2.2.2.2.2.1; omega)).fr fs (fun k hk e => by have e2 : k = h := e; omega))
        replace HP2 := Lib.hid ((HP2.out.fr F (fun k hk e => by have e2 : k = r := e; have := hS.out.2.2.2.2.2.1; omega)).fr fs (fun k hk e => by have e2 : k = h := e; omega))
        replace HP3 := Lib.hid ((HP3.out.fr F (fun k hk e => by have e2 : k = r := e; have := hS.out.2.2.2.2.2.1; omega)).fr fs (fun k hk e => by have e2 : k = h := e; omega))
        replace HP4 := Lib.hid ((HP4.out.fr F (fun k hk e => by have e2 : k = r := e; have := hS.out.2.2.2.2.2.1; omega)).fr fs (fun k hk e => by have e2 : k = h := e; omega))
        have HP5 := Lib.hid ((P5.mono (c := h + 1) (by have h1 := HL0.out.2; have h2 := HLS.out; omega)).fr fs (fun k hk e => by have e2 : k = h := e; omega))
        replace HF := Lib.hid ((HF.out.trans F (fun i hi => .inr (by rw [show i = r from hi]; exact hS.out.2.2.2.1))).trans fs (fun i hi => .inr (by rw [show i = h from hi]; exact hS.out.2.2.2.2.1)))
        replace HLS : Hid (W0.heap.size ≤ W5.heap.size) := Nat.le_trans HLS.out (Nat.le_trans F.size fs.size)
        clear HL c0 O R F E P5 b7 fs b8 hW4
        have RD : RdAt W5.drew r B2 d2 l (q5 l) := RdAt.fr HR.out ((Fr.refl No W5).drew) (fun k => k) (fun _ _ k => k)
        have FD := (Fr.refl (RS r) W5).drew
        have KC : Hid (∀ W, Fr (RS r) W5 W → W.cell? ⟨cc, 0, none⟩ = some (.pointer (some ⟨r, 0, none⟩))) := fun W hW => (HC.out.rs hW).1
        have KT : Hid (∀ (W : World) (j : Nat) (v : Value), W.cell? ⟨cc, 0, none⟩ = some (.pointer (some ⟨r, 0, none⟩)) → (W.setCell ⟨h, j, none⟩ v).cell? ⟨cc, 0, none⟩ = some (.pointer (some ⟨r, 0, none⟩))) := fun W j v hW => ((Fr.refl (fun k => k = h) W).setCell (p := ⟨h, j, none⟩) (.inl rfl) v).cell hW hS.out.2.1
        have KB : Hid (∀ W, Fr (RS r) W5 W → W.heap[h]? = some (.cells #[.slice A1 x1.length c1, .slice A2 x2.length c2, .slice A3 M3.length c3, .slice A4 x4.length c4, .slice A5 M5.length c5, .int .i64 0, .int .i64 0, .int .i64 0, .int .i64 0, .int .i64 0] 38 (0, 0))) := fun W hW => hW.heap HB7.out hS.out.1.1
        have TN : Hid (∀ (W : World) (s : Pl), RdAt W r B2 d2 l s → Fr (RS r) W5 W → Calls Try.prog 40 #[.pointer (some ⟨r, 0, none⟩)] W fun e w1 => e = .returned (.int .i64 (gt l s 16 : Int)) ∧ RdAt w1 r B2 d2 l (nx l s 16) ∧ Fr (RS r) W5 w1) := by
          show ∀ W, _
          intro W s hR hF
          exact (ticks_any hR).mono fun _ _ ⟨h1, h2, h3⟩ => ⟨h1, h2, hF.trans h3 (fun _ k => .inl k)⟩
        have GN : Hid (∀ (W : World) (s : Pl), RdAt W r B2 d2 l s → Fr (RS r) W5 W → Calls Try.prog 35 #[.pointer (some ⟨r, 0, none⟩), .int .i64 16] W fun e w1 => e = .returned (.int .u64 (gt l s 16 : Int)) ∧ RdAt w1 r B2 d2 l (nx l s 16) ∧ Fr (RS r) W5 w1) := by
          show ∀ W, _
          intro W s hR hF
          exact (get_at hR 16 16 rfl).mono fun _ _ ⟨h1, h2, h3⟩ => ⟨h1, h2, hF.trans h3 (fun _ k => .inl k)⟩
        have xlt := gt_lt l (q5 l) 16
        have i1 : IntKind.i64.wrap (gt l (q5 l) 16 : Int) = (gt l (q5 l) 16 : Int) := by rw [IntKind.wrap_i64]; omega
        have c0 := HC.out.1
        clear xlt
        go_upto_region 13 with (fail)
        clear hW5
        go_region_held3 (fun W => W.cell? ⟨cc, 0, none⟩ = some (.pointer (some ⟨r, 0, none⟩)))
          (first | exact KC.out _ (by assumption) | exact KT.out _ _ _ (by assumption))
          (first
            | (go_at_call 35; with_reducible refine (GN.out _ _ (by assumption) (by assumption)).mono ?_; rintro e wa ⟨rfl, Ra, Fa⟩)
            | (go_at_call 40; with_reducible refine (TN.out _ _ (by assumption) (by assumption)).mono ?_; rintro e wa ⟨rfl, Ra, Fa⟩; (have Bz := ten5 (KB.out _ Fa)); obtain ⟨z5, z6, z7, z8, z9, y5, y6, y7, y8, y9⟩ := Bz))
        have fs : Fr (fun k => k = h) wa (((((wa.setCell ⟨h, 5, none⟩ (.int .i64 (gt l (q5 l) 16 : Int))).setCell ⟨h, 6, none⟩ (.int .i64 (gt l (q6 l) 16 : Int))).setCell ⟨h, 7, none⟩ (.int .i64 (gt l (q7 l) 16 : Int))).setCell ⟨h, 8, none⟩ (.int .i64 (gt l (q8 l) 16 : Int))).setCell ⟨h, 9, none⟩ (.int .i64 (gt l (q9 l) 16 : Int))) := (((((Fr.refl (fun k => k = h) wa).setCell (p := ⟨h, 5, none⟩) (.inl rfl) _).setCell (p := ⟨h, 6, none⟩) (.inl rfl) _).setCell (p := ⟨h, 7, none⟩) (.inl rfl) _).setCell (p := ⟨h, 8, none⟩) (.inl rfl) _).setCell (p := ⟨h, 9, none⟩) (.inl rfl) _
        have b8 : (((((wa.setCell ⟨h, 5, none⟩ (.int .i64 (gt l (q5 l) 16 : Int))).setCell ⟨h, 6, none⟩ (.int .i64 (gt l (q6 l) 16 : Int))).setCell ⟨h, 7, none⟩ (.int .i64 (gt l (q7 l) 16 : Int))).setCell ⟨h, 8, none⟩ (.int .i64 (gt l (q8 l) 16 : Int))).setCell ⟨h, 9, none⟩ (.int .i64 (gt l (q9 l) 16 : Int))).heap[h]? = some (.cells #[.slice A1 x1.length c1, .slice A2 x2.length c2, .slice A3 M3.length c3, .slice A4 x4.length c4, .slice A5 M5.length c5, .int .i64 (gt l (q5 l) 16 : Int), .int .i64 (gt l (q6 l) 16 : Int), .int .i64 (gt l (q7 l) 16 : Int), .int .i64 (gt l (q8 l) 16 : Int), .int .i64 (gt l (q9 l) 16 : Int)] 38 (0, 0)) := blk_set (blk_set (blk_set (blk_set (blk_set (KB.out _ Fa) 5 _) 6 _) 7 _) 8 _) 9 _
        obtain ⟨W6, hW6⟩ : ∃ W, (((((wa.setCell ⟨h, 5, none⟩ (.int .i64 (gt l (q5 l) 16 : Int))).setCell ⟨h, 6, none⟩ (.int .i64 (gt l (q6 l) 16 : Int))).setCell ⟨h, 7, none⟩ (.int .i64 (gt l (q7 l) 16 : Int))).setCell ⟨h, 8, none⟩ (.int .i64 (gt l (q8 l) 16 : Int))).setCell ⟨h, 9, none⟩ (.int .i64 (gt l (q9 l) 16 : Int))) = W := ⟨_, rfl⟩
        rw [hW6] at fs b8
        unfold q9 q8 q7 q6 at hW6
        replace HB := Lib.hid (fs.heap (Fa.heap HB.out hS.out.1.2) hS.out.2.2.1)
        have HB8 := Lib.hid b8
        replace HR := Lib.hid (show RdAt W6 r B2 d2 l (qE l) from RdAt.fr Ra fs (fun e => hS.out.1.1 (Eq.symm e)) (fun ad e => hS.out.2.2.2.2.2.2 ad e))
        replace HC := Lib.hid (show Cap W6 cc r from ⟨fs.cell (HC.out.rs Fa).1 hS.out.2.1, HC.out.2⟩)
        replace HP1 := Lib.hid ((HP1.out.fr Fa (fun k hk e => by have e2 : k = r := e; have := hS.out.2.2.2.2.2.1; omega)).fr fs (fun k hk e => by have e2 : k = h := e; omega))
        replace HP2 := Lib.hid ((HP2.out.fr Fa (fun k hk e => by have e2 : k = r := e; have := hS.out.2.2.2.2.2.1; omega)).fr fs (fun k hk e => by have e2 : k = h := e; omega))
        replace HP3 := Lib.hid ((HP3.out.fr Fa (fun k hk e => by have e2 : k = r := e; have := hS.out.2.2.2.2.2.1; omega)).fr fs (fun k hk e => by have e2 : k = h := e; omega))
        replace HP4 := Lib.hid ((HP4.out.fr Fa (fun k hk e => by have e2 : k = r := e; have := hS.out.2.2.2.2.2.1; omega)).fr fs (fun k hk e => by have e2 : k = h := e; omega))
        replace HP5 := Lib.hid ((HP5.out.fr Fa (fun k hk e => by have e2 : k = r := e; have := hS.out.2.2.2.2.2.1; omega)).fr fs (fun k hk e => by have e2 : k = h := e; omega))
        replace HF := Lib.hid ((HF.out.trans Fa (fun i hi => .inr (by rw [show i = r from hi]; exact hS.out.2.2.2.1))).trans fs (fun i hi => .inr (by rw [show i = h from hi]; exact hS.out.2.2.2.2.1)))
        have cz := HC.out.1
        clear fs b8 KC KT KB TN GN i1 RD FD HB7
        try clear z5 z6 z7 z8 z9 y5 y6 y7 y8 y9
        have hok := ok_any HR.out
        by_cases hf : (qE l).2 = true
        · have hd : Hid (decL l = (lnone, 4)) := by show decL l = _; unfold decL; rw [if_pos hf]
          rw [hf] at hok
          have HOK := Lib.hid hok
          clear hok hf
          go_wp2_with fail
          refine HOK.out.mono ?_
          rintro e w7 ⟨rfl, rfl⟩
          go_wp2_with (first | (refine wpList_store_row rfl 38 (.tmp 2) (.tmp 68) rfl g #[.slice none 0 0, .slice none 0 0, .slice none 0 0, .slice none 0 0, .slice none 0 0, .int .i64 0, .int .i64 0, .int .i64 0, .int .i64 0, .int .i64 0] rfl rfl 38 _ HB.out (by kernel_rfl) rfl (by simp [Value.oneCell']) ?_))
          refine bodyPost_ret (results_cell2 rfl _ _ _ g _ rfl (run_loadVar_row _ g _ _ _ _ _ (setRow_heap _ g _ _ _ _ HB.out) Try.underlying38 rfl (by kernel_rfl))) rfl ?_
          exact ⟨lz, by rw [hD.out, hd.out]; rfl, by rw [hD.out, hd.out]; exact LayV.zero _ _, HF.out.row (.inr hgw.out)⟩
        · have hff : (qE l).2 = false := by simpa using hf
          have hleft := left_any HR.out
          rw [hff] at hok
          obtain ⟨lf, hlf⟩ : ∃ x, left l (qE l).1 (qE l).2 = x := ⟨_, rfl⟩
          rw [hlf] at hleft
          have HOK := Lib.hid hok
          have HLF := Lib.hid hleft
          have Hff := Lib.hid hff
          have Hlf := Lib.hid hlf
          have HCC := Lib.hid cz
          clear hok hleft hff hlf hf
          by_cases hl0 : 0 < lf
          · have hd : Hid (decL l = (lnone, 2)) := by show decL l = _; unfold decL; rw [if_neg (by rw [Hff.out]; decide), if_pos (by rw [Hlf.out]; exact hl0)]
            go_wp2_with fail
            refine HOK.out.mono ?_
            rintro e w7 ⟨rfl, rfl⟩
            go_wp2_with fail
            refine HLF.out.mono ?_
            rintro e w8 ⟨rfl, nd, rfl⟩
            have b9 := ((Fr.refl No w7).drewN nd).heap HB.out (fun k => k)
            have f9 := HF.out.drewN nd
            have H9 := Lib.hid b9
            have HF9 := Lib.hid f9
            clear b9 f9
            go_wp2_with (first | (refine wpList_store_row rfl 38 (.tmp 2) (.tmp 73) rfl g #[.slice none 0 0, .slice none 0 0, .slice none 0 0, .slice none 0 0, .slice none 0 0, .int .i64 0, .int .i64 0, .int .i64 0, .int .i64 0, .int .i64 0] rfl rfl 38 _ H9.out (by kernel_rfl) rfl (by simp [Value.oneCell']) ?_))
            refine bodyPost_ret (results_cell2 rfl _ _ _ g _ rfl (run_loadVar_row _ g _ _ _ _ _ (setRow_heap _ g _ _ _ _ H9.out) Try.underlying38 rfl (by kernel_rfl))) rfl ?_
            exact ⟨lz, by rw [hD.out, hd.out]; rfl, by rw [hD.out, hd.out]; exact LayV.zero _ _, HF9.out.row (.inr hgw.out)⟩
          · have hd : Hid (decL l = (layOf l, 0)) := by show decL l = _; unfold decL; rw [if_neg (by rw [Hff.out]; decide), if_neg (by rw [Hlf.out]; exact hl0)]
            go_wp2_with fail
            refine HOK.out.mono ?_
            rintro e w7 ⟨rfl, rfl⟩
            go_wp2_with fail
            refine HLF.out.mono ?_
            rintro e w8 ⟨rfl, nd, rfl⟩
            have f8 := (Fr.refl No w7).drewN nd
            have H9 := Lib.hid (f8.heap HB.out (fun k => k))
            have H8 := Lib.hid (f8.heap HB8.out (fun k => k))
            have HF9 := Lib.hid (HF.out.drewN nd)
            obtain ⟨⟨o1, o2, o3⟩, o4, o5⟩ := all_ok l Hff.out
            have HV : Hid (LayV (h + 1) (w7.drewN nd) (layOf l) #[.slice A1 x1.length c1, .slice A2 x2.length c2, .slice A3 M3.length c3, .slice A4 x4.length c4, .slice A5 M5.length c5, .int .i64 (gt l (q5 l) 16 : Int), .int .i64 (gt l (q6 l) 16 : Int), .int .i64 (gt l (q7 l) 16 : Int), .int .i64 (gt l (q8 l) 16 : Int), .int .i64 (gt l (q9 l) 16 : Int)]) := by
              have e : layOf l = ⟨x1, x2.map seI, M3.map (fun x => x.2.2), x4.map poI, M5.map (fun x => x.2.2), gt l (q5 l) 16, gt l (q6 l) 16, gt l (q7 l) 16, gt l (q8 l) 16, gt l (q9 l) 16⟩ := by
                rw [HE1.out o1, HE2.out o2, HE3.out o3, HE4.out o4, HE5.out o5]; rfl
              rw [e]
              exact LayV.mk5 (HP1.out.fr f8 (fun _ _ k => k)) (HP2.out.fr f8 (fun _ _ k => k)) (HP3.out.fr f8 (fun _ _ k => k)) (HP4.out.fr f8 (fun _ _ k => k)) (HP5.out.fr f8 (fun _ _ k => k)) _ _ _ _ _
            clear f8 o1 o2 o3 o4 o5
            go_upto_region 18 with (fail)
            refine wp_region_lit ?_
            refine wpList_load_row rfl 38 (.tmp 7) rfl h rfl 38 _ (0, 0) _ H8.out Try.underlying38 rfl (by kernel_rfl) ?_
            simp only [Act.put, List.setIfInBounds_toArray, List.set_cons_zero, List.set_cons_succ]
            refine wpList_store_row rfl 38 (.tmp 2) (.tmp 74) rfl g _ rfl rfl 38 _ H9.out (by kernel_rfl) (by simp) (by simp [Value.oneCell']) ?_
            clear hW6 HR HC HOK HLF HCC HE1 HE2 HE3 HE4 HE5 HB HB8 HF
            go_wp2
            refine bodyPost_ret (results_cell2 rfl _ _ _ g _ rfl (run_loadVar_row _ g _ _ _ _ _ (setRow_heap _ g _ _ _ _ H9.out) Try.underlying38 rfl (by kernel_rfl))) rfl ?_
            refine ⟨_, by rw [hD.out, hd.out]; rfl, ?_, HF9.out.row (.inr hgw.out)⟩
            rw [hD.out, hd.out]
            exact (HV.out.fr ((Fr.refl (fun k => k = g) _).row (.inl rfl)) (fun k hk e => by have e2 : k = g := e; have := hgh.out; omega)).mono (by have := hS.out.2.2.2.2.1; omega)
    · have hD : Hid (decAL p = (lnone, 2)) := by show decAL p = _; unfold decAL; rw [if_pos h0, hq, if_neg hBL]
      by_cases h2 : q.length < 2
      · obtain ⟨Q, cq, rfl, _, _, _⟩ := O.shape2
        rw [h0, bys_length]
        clear O N F1 HO hq hBL h0
        go_wp2_with (first | (refine wpList_store_row rfl 38 (.tmp 2) (.tmp 26) rfl g #[.slice none 0 0, .slice none 0 0, .slice none 0 0, .slice none 0 0, .slice none 0 0, .int .i64 0, .int .i64 0, .int .i64 0, .int .i64 0, .int .i64 0] rfl rfl 38 _ HB.out (by kernel_rfl) rfl (by simp [Value.oneCell']) ?_))
        refine bodyPost_ret (results_cell2 rfl _ _ _ g _ rfl (run_loadVar_row _ g _ _ _ _ _ (setRow_heap _ g _ _ _ _ HB.out) Try.underlying38 rfl (by kernel_rfl))) rfl ?_
        exact ⟨lz, by rw [hD.out]; rfl, by rw [hD.out]; exact LayV.zero _ _, HF.out.row (.inr hgw.out)⟩
      · obtain ⟨gq, cq, rfl, hcq, _, _, _, _, hcl, _⟩ := O.form (by rw [bys_length]; omega)
        rw [bys_length] at hcq
        rw [h0, bys_length]
        obtain ⟨b0, hb0⟩ : ∃ b0, q.getD 0 0 = b0 := ⟨_, rfl⟩
        obtain ⟨b1, hb1⟩ : ∃ b1, q.getD 1 0 = b1 := ⟨_, rfl⟩
        have hq2 : q.take 2 = [b0, b1] := by
          rw [← hb0, ← hb1]
          match q, h2 with
          | [], h2 => simp at h2
          | [_], h2 => simp at h2
          | x :: y :: r, _ => rfl
        rw [hq2] at hBL
        have hcv := run_convert_bytes_back (P := Try.prog) w1 22 9 5 ⟨gq, 0, none⟩ cq [b0, b1] Try.underlying22 Try.underlying5 Try.underlying9 (fun j hj => by
          rw [addr_add0]
          match j, hj with
          | 0, _ => rw [hcl 0 (by rw [bys_length]; omega), bys_getD _ (by omega), hb0]; rfl
          | 1, _ => rw [hcl 1 (by rw [bys_length]; omega), bys_getD _ (by omega), hb1]; rfl)
        have hcv2 : (convert 22 9 (.slice (some ⟨gq, 0, none⟩) 2 cq)).run Try.prog w1 = .ok (.string ⟨[b0, b1].toArray⟩) w1 := hcv
        obtain ⟨S, hS⟩ : ∃ S : ByteArray, ⟨[b0, b1].toArray⟩ = S := ⟨_, rfl⟩
        rw [hS] at hcv2
        have hSl : S.toList = [b0, b1] := by rw [← hS]; exact ByteArray.toList_mk _
        have hne : ([b0, b1] == [66, 76]) = false := by simpa using hBL
        have hq2l : (2 : Int) ≤ (q.length : Int) := by omega
        have hq2c : (2 : Int) ≤ (cq : Int) := by omega
        clear O N F1 HO hq hBL h0 hcl hcv hb0 hb1 hq2 hS
        go_wp2_with (first | (refine wpList_store_row rfl 38 (.tmp 2) (.tmp 26) rfl g #[.slice none 0 0, .slice none 0 0, .slice none 0 0, .slice none 0 0, .slice none 0 0, .int .i64 0, .int .i64 0, .int .i64 0, .int .i64 0, .int .i64 0] rfl rfl 38 _ HB.out (by kernel_rfl) rfl (by simp [Value.oneCell']) ?_))
        refine bodyPost_ret (results_cell2 rfl _ _ _ g _ rfl (run_loadVar_row _ g _ _ _ _ _ (setRow_heap _ g _ _ _ _ HB.out) Try.underlying38 rfl (by kernel_rfl))) rfl ?_
        exact ⟨lz, by rw [hD.out]; rfl, by rw [hD.out]; exact LayV.zero _ _, HF.out.row (.inr hgw.out)⟩
  · have hD : Hid (decAL p = (lnone, code p)) := by show decAL p = _; unfold decAL; rw [if_neg h0]
    obtain ⟨k, hk⟩ : ∃ k, code p = k := ⟨_, rfl⟩
    rw [hk] at h0 hD ⊢
    obtain ⟨Q, cq, rfl, _, _, _⟩ := O.shape2
    clear O N F1 HO hk
    go_wp2_with (first | (refine wpList_store_row rfl 38 (.tmp 2) (.tmp 15) rfl g #[.slice none 0 0, .slice none 0 0, .slice none 0 0, .slice none 0 0, .slice none 0 0, .int .i64 0, .int .i64 0, .int .i64 0, .int .i64 0, .int .i64 0] rfl rfl 38 _ HB.out (by kernel_rfl) rfl (by simp [Value.oneCell']) ?_))
    refine bodyPost_ret (results_cell2 rfl _ _ _ g _ rfl (run_loadVar_row _ g _ _ _ _ _ (setRow_heap _ g _ _ _ _ HB.out) Try.underlying38 rfl (by kernel_rfl))) rfl ?_
    exact ⟨lz, by rw [hD.out]; rfl, by rw [hD.out]; exact LayV.zero _ _, HF.out.row (.inr hgw.out)⟩
end Go.Proofs.Ytfnlimcgoeknjaa
