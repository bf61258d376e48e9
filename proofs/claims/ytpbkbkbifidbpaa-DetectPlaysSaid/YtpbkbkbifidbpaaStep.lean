import Derived.Test.YtpbkbkbifidbpaaWalk
import Derived.StillTailTactics
import Derived.BigRegion
namespace Go.Proofs.Ytpbkbkbifidbpaa
open Go.RowKit Go
attribute [local go_sem] max2_int min2_int max_two min_two

/-- A part's count behind a step. -/
def nxt (r : List UInt8) (i : Nat) (c : Int) : Int := if r[i]? = some 0 then min (c + 1) 1001 else 0
/-- The counts with the first k parts behind the step. -/
def upd (r : List UInt8) (cs : List Int) (k : Nat) : List Int := (List.range cs.length).map fun i => if i < k then nxt r i (cs.getD i 0) else cs.getD i 0
/-- What is told of the first k parts. -/
def told (r : List UInt8) (cs : List Int) (stay : Int) (k : Nat) : List Bool := (List.range k).map fun i => decide (stay < nxt r i (cs.getD i 0))
def Small (cs : List Int) : Prop := ∀ j, 0 ≤ cs.getD j 0 ∧ cs.getD j 0 ≤ 1001
theorem nxt_small (r : List UInt8) (i : Nat) {c : Int} (h : 0 ≤ c ∧ c ≤ 1001) : 0 ≤ nxt r i c ∧ nxt r i c ≤ 1001 := by unfold nxt; split <;> omega
theorem upd_length (r : List UInt8) (cs : List Int) (k : Nat) : (upd r cs k).length = cs.length := by simp [upd]
theorem upd_get (r : List UInt8) (cs : List Int) (k j : Nat) (hj : j < cs.length) : (upd r cs k).getD j 0 = if j < k then nxt r j (cs.getD j 0) else cs.getD j 0 := by
  simp [upd, List.getD_eq_getElem?_getD, hj]
theorem upd_zero (r : List UInt8) (cs : List Int) : upd r cs 0 = cs := by
  apply List.ext_getElem
  · simp [upd]
  · intro i h1 h2
    simp [upd, List.getD_eq_getElem?_getD, List.getElem?_eq_getElem h2]
theorem upd_set (r : List UInt8) (cs : List Int) (k : Nat) : (upd r cs k).set k (nxt r k (cs.getD k 0)) = upd r cs (k + 1) := by
  apply List.ext_getElem
  · simp [upd]
  · intro i h1 h2
    rw [List.getElem_set]
    have hi : i < cs.length := by simpa [upd] using h2
    by_cases hki : k = i
    · subst hki
      simp [upd]
    · simp only [upd, List.getElem_map, List.getElem_range, hki, if_false]
      by_cases h3 : i < k
      · rw [if_pos h3, if_pos (by omega)]
      · rw [if_neg h3, if_neg (by omega)]
theorem told_succ (r : List UInt8) (cs : List Int) (stay : Int) (k : Nat) : told r cs stay (k + 1) = told r cs stay k ++ [decide (stay < nxt r k (cs.getD k 0))] := by
  simp [told, List.range_succ]
theorem told_length (r : List UInt8) (cs : List Int) (stay : Int) (k : Nat) : (told r cs stay k).length = k := by simp [told]

theorem infoBool : (Try.prog.info? 4).map (fun i => (i.zero, i.size, i.bytes)) = some (some (.bool false), 1, 1) := by kernel_rfl

set_option maxRecDepth 20000 in
theorem step_any {w : World} {g q : Nat} {cs : List Int} {stay : Int} (h : Filt w g q cs stay) (hs : Small cs) (A : Option Addr) (c : Nat) (r : List UInt8) (hr : Rd w A (bys r)) (hne : ∀ ad, A = some ad → 0 < r.length → ad.block ≠ q) :
    Calls Try.prog 10 #[.pointer (some ⟨g, 0, none⟩), .slice A r.length c] w fun e w' => ∃ v, e = .returned v ∧ Own w' 4 v (bls (told r cs stay cs.length)) ∧
      (∀ k, v.ownBlock = some k → w.heap.size ≤ k) ∧ Filt w' g q (upd r cs cs.length) stay ∧ Fr (fun k => k = q) w w' := by
  have hl := hr.1
  rw [bys_length] at hl
  have h16 := h.2.2.2
  obtain ⟨c0, c1, _⟩ := h.cells
  have H := Lib.hid h
  have HR := Lib.hid hr
  have HN := Lib.hid hne
  have HS := Lib.hid hs
  clear h hr hne hs
  obtain ⟨i0, hi, hz0, hz1, hz2⟩ := info_parts infoBool
  go_enter Try.func10, Try.ntmps10
  go_wp2
  go_loopg [5, 14] cs.length (fun n v i wr => ∃ k : Nat, k + n = cs.length ∧ i = .int .i64 k ∧ Hid (Own wr 4 v (bls (told r cs stay k)) ∧ (∀ b, v.ownBlock = some b → w.heap.size ≤ b) ∧ Filt wr g q (upd r cs k) stay ∧ Fr (fun k => k = q) w wr))
  case atStart => exact ⟨0, by omega, rfl, by simpa [told, bls] using Own.nil _ _, by simp [Value.ownBlock], by rw [upd_zero]; exact H.out, Fr.refl _ _⟩
  case round =>
    obtain ⟨k, hk, rfl, R⟩ := hrel
    by_cases hlt : k < cs.length
    · obtain ⟨hown, hob, hf, hfr⟩ := R.out
      obtain ⟨d0, d1, d2⟩ := hf.cells
      rw [upd_length] at d0
      obtain ⟨dk, dkf⟩ := d2 k (by rw [upd_length]; exact hlt)
      rw [upd_get _ _ _ _ hlt, if_neg (by omega)] at dk
      have sm := HS.out k
      clear d2 c0 c1
      have fin : ∀ x : Int, nxt r k (cs.getD k 0) = x → ∀ n : Nat,
          Filt ((wr.setCell ⟨q, k, none⟩ (.int .i64 x)).drewN n) g q (upd r cs (k + 1)) stay ∧ Own ((wr.setCell ⟨q, k, none⟩ (.int .i64 x)).drewN n) 4 u5 (bls (told r cs stay k)) ∧
          Fr (fun k => k = q) w ((wr.setCell ⟨q, k, none⟩ (.int .i64 x)).drewN n) ∧ cnt (upd r cs (k + 1)) k = x := by
        intro x hx n
        have f1 := hf.set k x
        rw [← hx, upd_set] at f1
        have fs : Fr (fun k => k = q) wr (wr.setCell ⟨q, k, none⟩ (.int .i64 x)) := (Fr.refl (fun k => k = q) wr).setCell (p := ⟨q, k, none⟩) (.inl rfl) _
        refine ⟨by rw [← hx]; exact f1.drewN n, (hown.fr (fs.drewN n) ?_), (hfr.trans (fs.drewN n) (fun i hi => .inl hi)), ?_⟩
        · intro b hb e
          have := hob b hb
          subst e
          have := blk_lt H.out.2.1
          omega
        · rw [cnt_nat, upd_get _ _ _ _ hlt, if_pos (by omega), hx]
      have close : ∀ x : Int, nxt r k (cs.getD k 0) = x → ∀ (n : Nat) (v1 : Value) (w1 : World), Own w1 4 v1 (bls (told r cs stay k) ++ [.bool (decide (stay < x))]) →
          Fr (fun k => u5.ownBlock = some k) ((wr.setCell ⟨q, k, none⟩ (.int .i64 x)).drewN n) w1 → (v1.ownBlock = u5.ownBlock ∨ ∃ b, v1.ownBlock = some b ∧ wr.heap.size ≤ b) →
          Hid (Own w1 4 v1 (bls (told r cs stay (k + 1))) ∧ (∀ b, v1.ownBlock = some b → w.heap.size ≤ b) ∧ Filt w1 g q (upd r cs (k + 1)) stay ∧ Fr (fun k => k = q) w w1) := by
        intro x hx n v1 w1 ho hg hat
        obtain ⟨f1, f2, f3, f4⟩ := fin x hx n
        have hgq := blk_lt H.out.1
        have hqq := blk_lt H.out.2.1
        have hne : ∀ b, b < w.heap.size → ¬ u5.ownBlock = some b := fun b hb e => by have := hob b e; omega
        refine ⟨?_, ?_, f1.fr hg (hne _ hgq) (hne _ hqq), f3.trans hg (fun i hi => .inr (hob i hi))⟩
        · rw [told_succ, hx]
          simpa [bls] using ho
        · intro b hb
          rcases hat with e | ⟨b', e, hle⟩
          · exact hob b (e ▸ hb)
          · rw [e] at hb
            cases hb
            have := hfr.size
            omega
      have FIN := Lib.hid fin
      have CLOSE := Lib.hid close
      clear fin close
      by_cases hkr : k < r.length
      · obtain ⟨ad, b, rfl, hc, hbk⟩ := HR.out.byte' hkr
        have hc' := hfr.cell hc (by rw [Addr.add_block]; exact HN.out ad rfl (by omega))
        have hrk : r[k]? = some b := by
          rw [List.getElem?_eq_getElem hkr, ← hbk.out, List.getD_eq_getElem?_getD, List.getElem?_eq_getElem hkr]; rfl
        clear hc
        by_cases hb0 : b = 0
        · have hn : nxt r k (cs.getD k 0) = min (cs.getD k 0 + 1) 1001 := by unfold nxt; rw [hrk, hb0, if_pos rfl]
          rw [hb0] at hc'
          have hc0 : wr.cell? (ad.add k) = some (.int .u8 0) := hc'
          obtain ⟨cv, hcv⟩ : ∃ cv, cs.getD k 0 = cv := ⟨_, rfl⟩
          rw [hcv] at dk sm
          have hn2 : nxt r k (cs.getD k 0) = min (cv + 1) 1001 := by rw [hn, hcv]
          have i1 : (0 : Int) ≤ (k : Int) := by omega
          have i2 : (k : Int) < (cs.length : Int) := by omega
          have i3 : (k : Int) < (r.length : Int) := by omega
          have HNX := Lib.hid hn2
          have HOB := Lib.hid hob
          clear hn2 hn hown hf hfr hob hc' hrk hb0 hcv
          go_wp2_with fail
          go_still_tail 15, (by kernel_rfl)
          go_wp2_with fail
          refine (clear_any (FIN.out _ HNX.out 1).1 _).mono ?_
          rintro e w' ⟨rfl, n, rfl⟩
          rw [(FIN.out _ HNX.out 1).2.2.2]
          go_wp2_with (at_builtin; go_loud (refine own_append rfl (.tmp 49) (.tmp 53) 26 4 (.bool false) 1 rfl Try.underlying26 infoBool rfl (by decide) u5 (bls (told r cs stay k)) (.bool _) _ rfl rfl ?hb rfl (FIN.out _ HNX.out (1 + n)).2.1 ?hl ?_))
          case hb => simp [World.setCell]
          case hl => rw [bls_length, told_length]; omega
          intro v1 w1 ho hg hat
          have C := CLOSE.out _ HNX.out (1 + n) v1 w1 ho hg hat
          clear ho hg hat
          go_wp2
          go_roundg (cs.length - (k + 1))
          case measure => omega
          case rel => exact ⟨k + 1, by omega, by go_num, C⟩
        · have hn : nxt r k (cs.getD k 0) = 0 := by unfold nxt; rw [hrk, if_neg (by simpa using hb0)]
          have hz : ((b.toNat : Int) == 0) = false := by rw [u8_zero]; simp [hb0]
          have HNX := Lib.hid hn
          have HOB := Lib.hid hob
          clear hn hown hf hfr hob hrk hb0
          go_wp2_with fail
          refine (clear_any (FIN.out 0 HNX.out 0).1 _).mono ?_
          rintro e w' ⟨rfl, n, rfl⟩
          rw [(FIN.out 0 HNX.out 0).2.2.2]
          go_wp2_with (at_builtin; go_loud (refine own_append rfl (.tmp 49) (.tmp 53) 26 4 (.bool false) 1 rfl Try.underlying26 infoBool rfl (by decide) u5 (bls (told r cs stay k)) (.bool _) _ rfl rfl ?hb rfl (FIN.out 0 HNX.out n).2.1 ?hl ?_))
          case hb => simp [World.setCell]
          case hl => rw [bls_length, told_length]; omega
          intro v1 w1 ho hg hat
          have C := CLOSE.out 0 HNX.out n v1 w1 ho hg hat
          clear ho hg hat
          go_wp2
          go_roundg (cs.length - (k + 1))
          case measure => omega
          case rel => exact ⟨k + 1, by omega, by go_num, C⟩
      · have hn : nxt r k (cs.getD k 0) = 0 := by unfold nxt; rw [List.getElem?_eq_none (by omega)]; simp
        have HNX := Lib.hid hn
        have HOB := Lib.hid hob
        clear hn hown hf hfr hob
        go_wp2_with fail
        refine (clear_any (FIN.out 0 HNX.out 0).1 _).mono ?_
        rintro e w' ⟨rfl, n, rfl⟩
        rw [(FIN.out 0 HNX.out 0).2.2.2]
        go_wp2_with (at_builtin; go_loud (refine own_append rfl (.tmp 49) (.tmp 53) 26 4 (.bool false) 1 rfl Try.underlying26 infoBool rfl (by decide) u5 (bls (told r cs stay k)) (.bool _) _ rfl rfl ?hb rfl (FIN.out 0 HNX.out n).2.1 ?hl ?_))
        case hb => simp [World.setCell]
        case hl => rw [bls_length, told_length]; omega
        intro v1 w1 ho hg hat
        have C := CLOSE.out 0 HNX.out n v1 w1 ho hg hat
        clear ho hg hat
        go_wp2
        go_roundg (cs.length - (k + 1))
        case measure => omega
        case rel => exact ⟨k + 1, by omega, by go_num, C⟩
    · go_wp2
      go_ret
      obtain rfl : k = cs.length := by omega
      obtain ⟨hown, hob, hf, hfr⟩ := R.out
      exact ⟨_, rfl, hown, hob, hf, hfr⟩
theorem told_getD {r : List UInt8} {cs : List Int} {stay : Int} {k j : Nat} (h : j < k) : (told r cs stay k).getD j false = decide (stay < nxt r j (cs.getD j 0)) := by
  simp [told, List.getD_eq_getElem?_getD, h]
end Go.Proofs.Ytpbkbkbifidbpaa
