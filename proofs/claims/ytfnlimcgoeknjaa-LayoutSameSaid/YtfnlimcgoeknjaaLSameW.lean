import Derived.Test.YtfnlimcgoeknjaaMakeG
import Derived.Test.YtfnlimcgoeknjaaRefT
import Derived.Test.YtfnlimcgoeknjaaLSamW
import Derived.Test.YtfnlimcgoeknjaaRSamW
import Derived.Test.YtfnlimcgoeknjaaTwoI
import Derived.Test.YtfnlimcgoeknjaaLSameL
import Derived.Deep.Cut
import Derived.Deep.CutBlock
namespace Go.Proofs.Ytfnlimcgoeknjaa
open Go.RowKit Go Fl
def dcl (f l s m wt c st j : Nat) (A : Option Addr) (n cc : Nat) : Obj := .cells #[.int .u8 (f : Int), .int .u8 (l : Int), .int .u8 (s : Int), .int .u16 (m : Int), .int .u16 (wt : Int), .int .u8 (c : Int), .int .u8 (st : Int), .int .u8 (j : Int), .slice A n cc] 30

structure SameSt (L M : Lay) (C D : Array Value) (h1 h2 l1 u1 l2 u2 B : Nat) (w0 w : World) : Prop where
  c : LayI l1 u1 w L C
  d : LayI l2 u2 w M D
  b1 : w.heap[h1]? = some (.cells C 38 (0, 0))
  b2 : w.heap[h2]? = some (.cells D 38 (0, 0))
  f : Fr No w0 w
  le : (u1 ≤ B ∧ u2 ≤ B) ∧ (h1 < B ∧ h2 < B) ∧ w0.heap.size ≤ B
theorem SameSt.fr {S : Nat → Prop} {L M : Lay} {C D : Array Value} {h1 h2 l1 u1 l2 u2 B : Nat} {w0 w w' : World} (h : SameSt L M C D h1 h2 l1 u1 l2 u2 B w0 w) (f : Fr S w w') (hS : ∀ k, S k → B ≤ k) : SameSt L M C D h1 h2 l1 u1 l2 u2 B w0 w' := by
  obtain ⟨⟨e1, e2⟩, ⟨e3, e4⟩, e5⟩ := h.le
  exact ⟨h.c.fr f (fun k _ k2 k3 => by have := hS k k3; omega), h.d.fr f (fun k _ k2 k3 => by have := hS k k3; omega), f.heap h.b1 (fun k => by have := hS _ k; omega), f.heap h.b2 (fun k => by have := hS _ k; omega), h.f.trans f (fun k k1 => .inr (by have := hS k k1; omega)), h.le⟩
theorem rows_lay {w : World} {L : Lay} {An As Ap Aq Ar : Option Addr} {cn cs cp cq cr : Nat} {Mp Mr : IL} (h1 : RdK w An 1 L.no.length (L.no.flatMap cx1)) (h2 : RdK w As 3 L.se.length (L.se.flatMap sei)) (h3 : Rd2 0 w Ap Mp) (e3 : Mp.map (fun x => x.2.2) = L.pa) (h4 : RdK w Aq 4 L.po.length (L.po.flatMap poi)) (h5 : Rd2 0 w Ar Mr) (e5 : Mr.map (fun x => x.2.2) = L.ro) :
    LayV 0 w L (lcs An L.no.length cn As L.se.length cs Ap (List.length Mp) cp Aq L.po.length cq Ar (List.length Mr) cr L.sp L.mu L.wa L.ca L.st) :=
  ⟨An, cn, As, cs, Ap, cp, Aq, cq, Ar, cr, Mp, Mr, rfl, ⟨h1, fun _ _ => Nat.zero_le _⟩, ⟨h2, fun _ _ => Nat.zero_le _⟩, ⟨h3, e3⟩, ⟨h4, fun _ _ => Nat.zero_le _⟩, h5, e5⟩
theorem secs_pos (f u : Nat) : 0 < (mkSecs f u (mkEnds f).length).length := by
  have h : (mkSecs f u (mkEnds f).length).length = (mkEnds f).length := by simp [mkSecs]
  rw [h]
  unfold mkEnds
  split
  · simp; omega
  · split
    · simp
    · split <;> simp
theorem own_of {A : Option Addr} {n c k : Nat} (h : (Value.slice A n c).ownBlock = some k) : ∃ ad, A = some ad ∧ ad.block = k := by
  cases A with
  | none => simp [Value.ownBlock] at h
  | some ad => exact ⟨ad, rfl, by simpa [Value.ownBlock] using h⟩
theorem cx5 : cxc (5, 0) = Value.complex .f64 4617315517961601024 0 := by
  show Value.complex .f64 (F 5) (F 0) = _
  rw [show F 5 = 4617315517961601024 by decide +kernel, show F 0 = 0 by decide +kernel]

set_option maxRecDepth 20000 in
set_option maxHeartbeats 8000000 in
theorem layoutSame_any {f l s m wt c st j cc : Nat} {A : Option Addr} {R : BS} {f' l' s' m' wt' c' st' j' cc' : Nat} {A' : Option Addr} {R' : BS} {w : World} (what : Int) (hwt : 0 ≤ what ∧ what < 256)
    (hb : f < 256 ∧ l < 256 ∧ s < 256 ∧ m < 65536 ∧ wt < 65536 ∧ c < 256 ∧ st < 256 ∧ j < 256) (hR : Bss w A R) (hb' : f' < 256 ∧ l' < 256 ∧ s' < 256 ∧ m' < 65536 ∧ wt' < 65536 ∧ c' < 256 ∧ st' < 256 ∧ j' < 256) (hR' : Bss w A' R') :
    Calls Try.prog 8 #[.agg (dcs f l s m wt c st j A R.length cc), .agg (dcs f' l' s' m' wt' c' st' j' A' R'.length cc'), .int .u8 what] w fun e w' => e = .returned (.bool true) ∧ Fr No w w' := by
  unfold dcs
  have F0 := ((Fr.refl No w).alloc (dcl f l s m wt c st j A R.length cc)).alloc (dcl f' l' s' m' wt' c' st' j' A' R'.length cc')
  have BA : ((w.alloc (dcl f l s m wt c st j A R.length cc)).alloc (dcl f' l' s' m' wt' c' st' j' A' R'.length cc')).heap[w.heap.size]? = some (dcl f l s m wt c st j A R.length cc) := blk_alloc (blk_new _ _) _
  have BB : ((w.alloc (dcl f l s m wt c st j A R.length cc)).alloc (dcl f' l' s' m' wt' c' st' j' A' R'.length cc')).heap[(w.alloc (dcl f l s m wt c st j A R.length cc)).heap.size]? = some (dcl f' l' s' m' wt' c' st' j' A' R'.length cc') := blk_new _ _
  obtain ⟨g, hg⟩ : ∃ g, w.heap.size = g := ⟨_, rfl⟩
  rw [hg] at BA
  rw [show (w.alloc (dcl f l s m wt c st j A R.length cc)).heap.size = g + 1 by simp [hg]] at BB
  unfold dcl at F0 BA BB
  have HBA := Lib.hid BA
  have HBB := Lib.hid BB
  have HF0 := Lib.hid F0
  have HR := Lib.hid hR
  have HR' := Lib.hid hR'
  clear hR hR' BA BB F0
  obtain ⟨r, hr⟩ : ∃ r, what.tmod 6 = r := ⟨_, rfl⟩
  have hr6 : r = 0 ∨ r = 1 ∨ r = 2 ∨ r = 3 ∨ r = 4 ∨ r = 5 := by rw [Int.tmod_eq_emod_of_nonneg hwt.1] at hr; omega
  have hrw : IntKind.u8.wrap r = r := by rw [IntKind.wrap_u8]; omega
  go_enter Try.func8, Try.ntmps8
  go_wp2_with fail
  refine (bare_law _).mono ?_
  rintro e w1 ⟨rfl, F1⟩
  have HF1 := Lib.hid (HF0.out.trans F1 (fun _ k => k.elim))
  have HA1 := Lib.hid (F1.heap HBA.out (fun k => k))
  have HB1 := Lib.hid (F1.heap HBB.out (fun k => k))
  obtain ⟨s0, s1, s2, s3, s4, s5, s6, s7, s8⟩ := nines HA1.out
  have SA1 := Lib.hid (rsmall_any (f := f) (l := l) (s := s) (m := m) (wt := wt) (c := c) (st := st) (j := j) (cc := cc) (HR.out.no HF1.out))
  unfold dcs at SA1
  clear HBA HBB F1 HF0
  cases hsa : small R with
  | false =>
    rw [hsa] at SA1
    go_wp2_with fail
    refine SA1.out.mono ?_
    rintro e w2 ⟨rfl, F2⟩
    clear s0 s1 s2 s3 s4 s5 s6 s7 s8
    go_wp2_with fail
    refine (bare_law _).mono ?_
    rintro e w3 ⟨rfl, F3⟩
    go_wp2
    go_ret
    exact ⟨rfl, (HF1.out.trans F2 (fun _ k => k.elim)).trans F3 (fun _ k => k.elim)⟩
  | true =>
    rw [hsa] at SA1
    have HS := Lib.hid hsa
    go_wp2_with fail
    refine SA1.out.mono ?_
    rintro e w2 ⟨rfl, F2⟩
    have HF2 := Lib.hid (HF1.out.trans F2 (fun _ k => k.elim))
    have HA2 := Lib.hid (F2.heap HA1.out (fun k => k))
    have HB2 := Lib.hid (F2.heap HB1.out (fun k => k))
    clear s0 s1 s2 s3 s4 s5 s6 s7 s8
    obtain ⟨s0, s1, s2, s3, s4, s5, s6, s7, s8⟩ := nines HB2.out
    have SB1 := Lib.hid (rsmall_any (f := f') (l := l') (s := s') (m := m') (wt := wt') (c := c') (st := st') (j := j') (cc := cc') (HR'.out.no HF2.out))
    unfold dcs at SB1
    clear hsa F2 HF1 HA1 HB1 SA1
    cases hsb : small R' with
    | false =>
      rw [hsb] at SB1
      go_wp2_with fail
      refine SB1.out.mono ?_
      rintro e w3 ⟨rfl, F3⟩
      clear s0 s1 s2 s3 s4 s5 s6 s7 s8
      go_wp2_with fail
      refine (bare_law _).mono ?_
      rintro e w4 ⟨rfl, F4⟩
      go_wp2
      go_ret
      exact ⟨rfl, (HF2.out.trans F3 (fun _ k => k.elim)).trans F4 (fun _ k => k.elim)⟩
    | true =>
      rw [hsb] at SB1
      have HT := Lib.hid hsb
      go_wp2_with fail
      refine SB1.out.mono ?_
      rintro e w3 ⟨rfl, F3⟩
      have HF3 := Lib.hid (HF2.out.trans F3 (fun _ k => k.elim))
      have HA3 := Lib.hid (F3.heap HA2.out (fun k => k))
      have HB3 := Lib.hid (F3.heap HB2.out (fun k => k))
      clear s0 s1 s2 s3 s4 s5 s6 s7 s8
      clear hsb F3 HF2 HA2 HB2 SB1
      have OA : Hid (∀ W, Fr No w3 W → Calls Try.prog 15 #[.agg #[.int .u8 (f : Int), .int .u8 (l : Int), .int .u8 (s : Int), .int .u16 (m : Int), .int .u16 (wt : Int), .int .u8 (c : Int), .int .u8 (st : Int), .int .u8 (j : Int), .slice A R.length cc]] W fun e w' => ∃ C, e = .returned (.agg C) ∧ LayI W.heap.size w'.heap.size w' (mkL f l s m wt c st j (roR R)) C ∧ Fr No W w' ∧ OwnN W.heap.size w' (mkL f l s m wt c st j (roR R)) C) := by
        show ∀ W, _
        intro W hW
        exact (rrough_own hb (HR.out.no (HF3.out.trans hW (fun _ k => k.elim))) HS.out).mono fun _ _ ⟨C, h1, h2, h3, h4⟩ => ⟨C, h1, h2.i, h3, h4⟩
      have OB : Hid (∀ W, Fr No w3 W → Calls Try.prog 15 #[.agg #[.int .u8 (f' : Int), .int .u8 (l' : Int), .int .u8 (s' : Int), .int .u16 (m' : Int), .int .u16 (wt' : Int), .int .u8 (c' : Int), .int .u8 (st' : Int), .int .u8 (j' : Int), .slice A' R'.length cc']] W fun e w' => ∃ C, e = .returned (.agg C) ∧ LayI W.heap.size w'.heap.size w' (mkL f' l' s' m' wt' c' st' j' (roR R')) C ∧ Fr No W w') := by
        show ∀ W, _
        intro W hW
        exact (rrough_any hb' (HR'.out.no (HF3.out.trans hW (fun _ k => k.elim))) HT.out).mono fun _ _ ⟨C, h1, h2, h3⟩ => ⟨C, h1, h2.i, h3⟩
      have GL := Lib.hid (goodL_mk hb HS.out)
      have GM := Lib.hid (goodL_mk hb' HT.out)
      have GE : Hid (0 < (mkL f l s m wt c st j (roR R)).se.length) := by
        show _ < _
        exact secs_pos _ _
      have GP : Hid (0 < (mkL f l s m wt c st j (roR R)).pa.length) := by
        show _ < _
        have h0 := secs_pos f 0
        rw [show (mkSecs f 0 (mkEnds f).length).length = (mkEnds f).length by simp [mkSecs]] at h0
        exact List.length_pos_iff.2 (mkParts_ne j _ h0)
      obtain ⟨L, hL⟩ : ∃ L, mkL f l s m wt c st j (roR R) = L := ⟨_, rfl⟩
      obtain ⟨M, hM⟩ : ∃ M, mkL f' l' s' m' wt' c' st' j' (roR R') = M := ⟨_, rfl⟩
      rw [hL] at OA GL GE GP
      rw [hM] at OB GM
      clear hL hM
      go_upto_region 3 with (fail)
      go_cut [7, 8] (fun p q wc => ∃ h1 h2 C D l1 u1 l2 u2, p = .pointer (some ⟨h1, 0, none⟩) ∧ q = .pointer (some ⟨h2, 0, none⟩) ∧ Hid (LayI l1 u1 wc L C ∧ LayI l2 u2 wc M D ∧ wc.heap[h1]? = some (.cells C 38 (0, 0)) ∧ wc.heap[h2]? = some (.cells D 38 (0, 0)) ∧ Fr No w3 wc ∧ u1 ≤ wc.heap.size ∧ u2 ≤ wc.heap.size))
      case first =>
        refine heldZ_start (fun _ => True) 7 (by kernel_rfl) ?_
        refine two_calls_i (f := 15) (tS := 30) (t := 38) (x0 := 3) (x1 := 4) (d0 := 23) (d1 := 24) (d2 := 25) (d3 := 26) (d4 := 7) (d5 := 8) (g0 := g) (g1 := g + 1) (n := 10) (Z := #[.slice none 0 0, .slice none 0 0, .slice none 0 0, .slice none 0 0, .slice none 0 0, .int .i64 0, .int .i64 0, .int .i64 0, .int .i64 0, .int .i64 0]) (GA := fun lo hi C w => LayI lo hi w L C) (GB := fun lo hi C w => LayI lo hi w M C)
          rfl ⟨by kernel_rfl, by kernel_rfl, by kernel_rfl, by kernel_rfl, by kernel_rfl, by kernel_rfl, by kernel_rfl, by kernel_rfl⟩ ⟨rfl, rfl, rfl, rfl, rfl, rfl, rfl, rfl⟩ rfl rfl rfl rfl ⟨rfl, rfl, rfl, rfl, rfl, rfl, rfl, rfl⟩ (by decide) (by simp) rfl rfl
          ?c1 ?c3 ?c4 ?c5 HA3.out HB3.out Try.underlying30 rfl (by kernel_rfl) (by kernel_rfl) (by kernel_rfl) rfl (fun _ _ _ _ h => h.size) (fun _ _ _ _ h => h.size) (fun W hW => (OA.out W hW).mono fun _ _ ⟨C, h1, h2, h3, _⟩ => ⟨C, h1, h2, h3⟩) OB.out (fun _ _ _ _ _ _ h f hS => h.fr f hS) (fun _ _ _ _ _ _ h f hS => h.fr f hS) ?hQ
        case c1 => intro a w; go_simp
        case c3 => intro a w; go_simp
        case c4 => intro a w; go_simp
        case c5 => intro a w; go_simp
        case hQ =>
          intro s0 s2 C D h1 h2 l1 u1 l2 u2 w gC gD b1 b2 _ _ _ F k1 k2
          unfold six
          simp only [Act.put, List.setIfInBounds_toArray, List.set_cons_zero, List.set_cons_succ]
          go_wp2_with fail
          go_meet
          case rel => exact ⟨h1, h2, C, D, l1, u1, l2, u2, rfl, rfl, gC, gD, b1, b2, F, k1, k2⟩
      case rest =>
        obtain ⟨h1, h2, C, D, l1, u1, l2, u2, rfl, rfl, H0⟩ := hcut
        have HW := Lib.hid (H0.out.2.2.2.2.1.heap HA3.out (fun k => k))
        obtain ⟨s0, s1, s2, s3, s4, s5, s6, s7, s8⟩ := nines HW.out
        have H1 := Lib.hid (OA.out wc H0.out.2.2.2.2.1)
        go_wp2_with fail
        have hB : (u1 ≤ wc.heap.size ∧ u2 ≤ wc.heap.size) ∧ (h1 < wc.heap.size ∧ h2 < wc.heap.size) ∧ w3.heap.size ≤ wc.heap.size := ⟨⟨H0.out.2.2.2.2.2.1, H0.out.2.2.2.2.2.2⟩, ⟨blk_lt H0.out.2.2.1, blk_lt H0.out.2.2.2.1⟩, H0.out.2.2.2.2.1.size⟩
        have HS0 : Hid (SameSt L M C D h1 h2 l1 u1 l2 u2 wc.heap.size w3 wc) := ⟨H0.out.1, H0.out.2.1, H0.out.2.2.1, H0.out.2.2.2.1, H0.out.2.2.2.2.1, hB⟩
        obtain ⟨B, hBe⟩ : ∃ B, wc.heap.size = B := ⟨_, rfl⟩
        refine H1.out.mono ?_
        rintro e w1 ⟨X, rfl, _, F1, OX⟩
        rw [hBe] at OX HS0
        have hBw : B ≤ w1.heap.size := by rw [← hBe]; exact F1.size
        obtain ⟨b1, An, cn, As, cs, Ap, cp, Aq, cq, Ar, cr, Mp, Mr, hb1, rfl, ⟨ON, OU⟩, O2, ⟨O3, O3'⟩, ⟨O4, OQ⟩, O5, O5'⟩ := OX
        obtain ⟨A1, c1, e1, hnc, hnz, hob, RN⟩ := ON.shape
        injection e1 with e1 _ e2
        subst e1 e2
        have HS1 := Lib.hid (HS0.out.fr F1 (fun _ k => k.elim))
        have HO := Lib.hid (show (b1 ≤ w1.heap.size ∧ B ≤ b1) ∧ (OwnK w1 45 1 (.slice An L.no.length cn) L.no.length (L.no.flatMap cx1) ∧ ∀ ad, An = some ad → B ≤ ad.block ∧ ad.block < b1) ∧ RdN b1 w1 As 3 L.se.length (L.se.flatMap sei) ∧ (Rd2 b1 w1 Ap Mp ∧ Mp.map (fun x => x.2.2) = L.pa) ∧ (RdN B w1 Aq 4 L.po.length (L.po.flatMap poi) ∧ ∀ ad ad', An = some ad → Aq = some ad' → ad'.block ≠ ad.block) ∧ Rd2 b1 w1 Ar Mr ∧ Mr.map (fun x => x.2.2) = L.ro from ⟨⟨hb1.2, hb1.1⟩, ⟨ON, OU⟩, O2, ⟨O3, O3'⟩, ⟨O4, OQ⟩, O5, O5'⟩)
        have HRN := Lib.hid (show RdK w1 An 1 L.no.length (L.no.flatMap cx1) ∧ RdK w1 As 3 L.se.length (L.se.flatMap sei) ∧ Rd2 0 w1 Ap Mp ∧ RdK w1 Aq 4 L.po.length (L.po.flatMap poi) ∧ Rd2 0 w1 Ar Mr from ⟨RN, O2.rd, O3.mono (Nat.zero_le _), O4.rd, O5.mono (Nat.zero_le _)⟩)
        have HE3 := Lib.hid O3'
        have HE5 := Lib.hid O5'
        clear s0 s1 s2 s3 s4 s5 s6 s7 s8 H0 H1 HW hB HS0 hBe F1 hb1 ON OU O2 O3 O3' O4 OQ O5 O5' RN hob HA3 HB3 OA OB
        unfold lcs
        have HF1 := Lib.hid ((Fr.refl No w1).alloc (.cells (lcs An L.no.length cn As L.se.length cs Ap Mp.length cp Aq L.po.length cq Ar Mr.length cr L.sp L.mu L.wa L.ca L.st) 38))
        have b3 : (w1.alloc (.cells (lcs An L.no.length cn As L.se.length cs Ap Mp.length cp Aq L.po.length cq Ar Mr.length cr L.sp L.mu L.wa L.ca L.st) 38)).heap[w1.heap.size]? = some (.cells (lcs An L.no.length cn As L.se.length cs Ap Mp.length cp Aq L.po.length cq Ar Mr.length cr L.sp L.mu L.wa L.ca L.st) 38 (0, 0)) := blk_new _ _
        obtain ⟨h3, hh3⟩ : ∃ h, w1.heap.size = h := ⟨_, rfl⟩
        obtain ⟨W, hWe⟩ : ∃ W, w1.alloc (.cells (lcs An L.no.length cn As L.se.length cs Ap Mp.length cp Aq L.po.length cq Ar Mr.length cr L.sp L.mu L.wa L.ca L.st) 38) = W := ⟨_, rfl⟩
        rw [hh3, hWe] at b3
        rw [hWe] at HF1
        rw [hh3] at hBw
        unfold lcs at b3 hWe
        have HB3 := Lib.hid b3
        have HWe := Lib.hid hWe
        have HH3 := Lib.hid hh3
        have hl3 : h3 < W.heap.size := blk_lt b3
        clear b3
        go_upto_block 0 with (fail)
        go_cut [] (fun wx => ∃ X N, Hid (SameSt L M C D h1 h2 l1 u1 l2 u2 B w3 wx ∧ (∃ b, LayV b wx N X) ∧ wx.heap[h3]? = some (.cells X 38 (0, 0)) ∧ N ≠ L ∧ Sized N))
        case first =>
          obtain ⟨q0, q1, q2, q3, q4, q5, q6, q7, q8, q9⟩ := tens HB3.out
          have z0 := blk_free HB3.out 0
          have z1 := blk_free HB3.out 1
          have z2 := blk_free HB3.out 2
          have z3 := blk_free HB3.out 3
          have z5 := blk_free HB3.out 5
          have z9 := blk_free HB3.out 9
          have g1 := GL.out.nu
          rcases hr6 with rfl | rfl | rfl | rfl | rfl | rfl
          · have j1 : IntKind.i64.wrap (L.sp + 1) = L.sp + 1 := by rw [IntKind.wrap_i64]; omega
            clear q0 q1 q2 q3 q4 q6 q7 q8 q9 z0 z1 z2 z3 z9 g1
            go_wp2
            go_meet
            case rel =>
              have f : Fr No w1 (W.setCell ⟨h3, 5, none⟩ (.int .i64 (L.sp + 1))) := HF1.out.setCell (.inr (by rw [HH3.out]; exact Nat.le_refl _)) _
              obtain ⟨R1, R2, R3, R4, R5⟩ := HRN.out
              exact ⟨_, { L with sp := L.sp + 1 }, HS1.out.fr f (fun _ k => k.elim), ⟨0, rows_lay (L := { L with sp := L.sp + 1 }) (R1.no f) (R2.no f) (R3.fr f (fun _ _ k => k)) HE3.out (R4.no f) (R5.fr f (fun _ _ k => k)) HE5.out⟩, blk_set HB3.out 5 _, fun e => by have := congrArg Lay.sp e; simp at this; omega, GL.out.sized⟩
          · have j1 : IntKind.i64.wrap (L.st + 1) = L.st + 1 := by rw [IntKind.wrap_i64]; omega
            clear q0 q1 q2 q3 q4 q6 q7 q8 q5 z0 z1 z2 z3 z5 g1
            go_wp2
            go_meet
            case rel =>
              have f : Fr No w1 (W.setCell ⟨h3, 9, none⟩ (.int .i64 (L.st + 1))) := HF1.out.setCell (.inr (by rw [HH3.out]; exact Nat.le_refl _)) _
              obtain ⟨R1, R2, R3, R4, R5⟩ := HRN.out
              exact ⟨_, { L with st := L.st + 1 }, HS1.out.fr f (fun _ k => k.elim), ⟨0, rows_lay (L := { L with st := L.st + 1 }) (R1.no f) (R2.no f) (R3.fr f (fun _ _ k => k)) HE3.out (R4.no f) (R5.fr f (fun _ _ k => k)) HE5.out⟩, blk_set HB3.out 9 _, fun e => by have := congrArg Lay.st e; simp at this; omega, GL.out.sized⟩
          · have hln := GL.out.no.1
            have OW : Hid (OwnK W 45 1 (.slice An L.no.length cn) L.no.length (L.no.flatMap cx1)) := by
              show OwnK _ _ _ _ _ _
              exact HO.out.2.1.1.no HF1.out
            clear q1 q2 q3 q4 q5 q6 q7 q8 q9 z1 z2 z3 z5 z9 g1 hnz hnc
            obtain ⟨nn, hnn⟩ : ∃ n, L.no.length = n := ⟨_, rfl⟩
            have HNN := Lib.hid hnn
            have HB3' := HB3
            rw [hnn] at OW hln q0 HB3'
            clear hnn
            go_wp2_with (at_builtin; go_loud (refine own_append_k rfl (.tmp 52) (.tmp 53) 33 45 (.complex .f64 0 0) 1 16 rfl Try.underlying33 infoC rfl (by decide) (by decide) (.slice An nn cn) nn (L.no.flatMap cx1) #[.complex .f64 4617315517961601024 0] W.heap.size (by first | rfl | simp [Act.eval, HNN.out]) rfl rfl rfl (by simp [Value.oneCell']) OW.out ?hl ?_))
            case hl => omega
            intro v4 w4 o4 f4 a4
            have hS : ∀ k, (Value.slice An nn cn).ownBlock = some k → B ≤ k ∧ k < b1 := fun k hk => by
              obtain ⟨ad, e, rfl⟩ := own_of hk
              exact HO.out.2.1.2 ad e
            have hb3 : b1 ≤ h3 := by have := HO.out.1.1; rw [HH3.out] at this; exact this
            have h4 : ∀ b, v4.ownBlock = some b → b ≠ h3 := fun b hb => by
              rcases a4 with e | ⟨b', e, hb'⟩
              · rw [e] at hb; have := hS b hb; omega
              · rw [e] at hb; cases hb; omega
            have B4 := f4.heap HB3'.out (fun k => by have := hS _ k; omega)
            obtain ⟨A4, c4, rfl, _, _, hb4, R4⟩ := o4.shape
            have fw : Fr (fun k => (Value.slice An nn cn).ownBlock = some k) w1 (w4.setCell ⟨h3, 0, none⟩ (.slice A4 (nn + 1) c4)) := (HF1.out.no.trans f4 (fun _ k => .inl k)).setCell (.inr (by rw [HH3.out]; exact Nat.le_refl _)) _
            have HFw := Lib.hid fw
            have HSk := Lib.hid hS
            have R4' := Lib.hid (R4.fr (((Fr.refl (fun k => k = h3) w4).setCell (p := ⟨h3, 0, none⟩) (.inl rfl) (.slice A4 (nn + 1) c4))) (fun ad e k => h4 _ (hb4 ad e) k))
            have HB4 := Lib.hid B4
            clear z0
            have z0 := blk_free HB4.out 0
            obtain ⟨y0, _⟩ := tens HB4.out
            clear o4 f4 a4 hS h4 B4 hb4 R4 fw
            go_wp2
            go_meet
            case rel =>
              have hlen : nn + 1 = (L.no ++ [((5 : Int), (0 : Int))]).length := by rw [List.length_append, HNN.out]; rfl
              have R1 : RdK _ A4 1 (nn + 1) (L.no.flatMap cx1 ++ [Value.complex .f64 4617315517961601024 0]) := R4'.out
              have B5 := blk_set HB4.out 0 (.slice A4 (nn + 1) c4)
              have e5 : (L.no.flatMap cx1 ++ [Value.complex .f64 4617315517961601024 0]) = (L.no ++ [((5 : Int), (0 : Int))]).flatMap cx1 := by
                rw [List.flatMap_append]
                rw [show List.flatMap cx1 [((5 : Int), (0 : Int))] = [cxc (5, 0)] from rfl, cx5]
              rw [e5] at R1
              have f := HFw.out
              have R2 := (HO.out.2.2.1.fr f (fun k hk hs => by have := HSk.out k hs; omega)).rd
              have R3 := (HO.out.2.2.2.1.1.fr f (fun k hk hs => by have := HSk.out k hs; omega)).mono (Nat.zero_le _)
              have R4 := HO.out.2.2.2.2.1.1.rd.fr f (fun ad e hs => by
                obtain ⟨ad0, e0, e1⟩ := own_of hs
                exact HO.out.2.2.2.2.1.2 ad0 ad e0 e e1.symm)
              have R5 := (HO.out.2.2.2.2.2.1.fr f (fun k hk hs => by have := HSk.out k hs; omega)).mono (Nat.zero_le _)
              have hst := HS1.out.fr f (fun k hk => (HSk.out k hk).1)
              rw [hlen] at R1 B5 R2 R3 R4 R5 hst ⊢
              exact ⟨_, { L with no := L.no ++ [((5 : Int), (0 : Int))] }, hst, ⟨0, rows_lay (L := { L with no := L.no ++ [((5 : Int), (0 : Int))] }) R1 R2 R3 HE3.out R4 R5 HE5.out⟩, B5, fun e => by have := congrArg (fun L => L.no.length) e; simp at this, fun x hx => by
                rcases List.mem_append.1 hx with h | h
                · exact GL.out.sized x h
                · simp at h; subst h; decide⟩
          · clear q0 q2 q3 q4 q5 q6 q7 q8 q9 z0 z2 z3 z5 z9 g1
            have hse := GE.out
            obtain ⟨s0, se', hs0⟩ : ∃ x l, L.se = x :: l := by
              cases h : L.se with
              | nil => rw [h] at hse; simp at hse
              | cons x l => exact ⟨x, l, rfl⟩
            have HS0 := Lib.hid hs0
            have hAs : As = none → cs = 0 := fun e => by
              obtain ⟨ad, e1, _⟩ := HRN.out.2.1.2.2 0 (by have := GE.out; omega)
              rw [e] at e1; cases e1
            have HAs := Lib.hid hAs
            clear hse hs0 hAs
            go_wp2_with (at_builtin; go_loud (refine own_extend_k rfl (.const (.slice none 0 0)) (.tmp 59) 34 48 (.agg #[.int .i64 0, .int .i64 0, .int .i64 0]) 3 24 rfl Try.underlying34 infoS rfl (by decide) (by decide) (.slice none 0 0) 0 [] (L.se.flatMap sei) As L.se.length cs rfl rfl HAs.out ?hR (flat_one sei sei_one _) (OwnK.nil _ _ _) ?hl ?_))
            case hR => exact HRN.out.2.1.no HF1.out
            case hl => have := GL.out.se.1; omega
            intro v4 w4 o4 f4 a4
            have o4' : OwnK w4 48 3 v4 L.se.length (L.se.flatMap sei) := by simpa using o4
            obtain ⟨g4, c4, rfl, hown, hle, z4, cl4, set4⟩ := o4'.head GE.out (by decide)
            have hg4 : W.heap.size ≤ g4 := by
              rcases a4 with e | ⟨b', e, hb'⟩
              · simp [Value.ownBlock] at e
              · rw [hown] at e; cases e; exact hb'
            have f4' : Fr No W w4 := f4.mono (fun i hi => by simp [Value.ownBlock] at hi)
            have B4 := f4'.heap HB3.out (fun k => k)
            have HB4 := Lib.hid B4
            have HF4 := Lib.hid f4'
            have HO4 := Lib.hid o4'
            have hne : ¬ g4 = h3 := by omega
            have hne' : ¬ h3 = g4 := by omega
            clear z1
            have z1 := blk_free HB4.out 1
            obtain ⟨_, y1, _⟩ := tens HB4.out
            rw [HS0.out] at cl4
            have cl4' : w4.cell? ⟨g4, 0, none⟩ = some (.int .i64 s0.1) := cl4
            have hpos : 0 < L.se.length := GE.out
            have j1 : IntKind.i64.wrap (s0.1 + 1) = s0.1 + 1 := by
              have := (GL.out.se.2 s0 (by rw [HS0.out]; exact List.mem_cons_self ..)).1
              rw [IntKind.wrap_i64]; omega
            clear o4 f4 a4 o4' hown hle set4 f4' B4 cl4
            go_wp2
            go_meet
            case rel =>
              obtain ⟨w5, hw5⟩ : ∃ x, w4.setCell ⟨h3, 1, none⟩ (.slice (some ⟨g4, 0, none⟩) L.se.length c4) = x := ⟨_, rfl⟩
              have o5 : OwnK w5 48 3 (.slice (some ⟨g4, 0, none⟩) L.se.length c4) L.se.length (L.se.flatMap sei) := by
                rw [← hw5]
                exact HO4.out.fr ((Fr.refl (fun k => k = h3) w4).setCell (p := ⟨h3, 1, none⟩) (.inl rfl) _) (fun b hb e => by obtain ⟨ad, e1, e2⟩ := own_of hb; cases e1; exact hne (e2.trans e))
              have b5 := blk_set HB4.out 1 (.slice (some ⟨g4, 0, none⟩) L.se.length c4)
              rw [hw5] at b5
              have f5 : Fr No w1 w5 := by
                rw [← hw5]
                exact (HF1.out.trans HF4.out (fun _ k => k.elim)).setCell (.inr (by rw [HH3.out]; exact Nat.le_refl _)) _
              rw [hw5]
              obtain ⟨g', c', e', _, _, _, _, set5⟩ := o5.head GE.out (by decide)
              injection e' with e' _ e''
              injection e' with e'
              injection e' with e'
              subst e' e''
              have o6 := set5 (.int .i64 (s0.1 + 1))
              obtain ⟨A6, c6, e6, _, _, _, R6⟩ := o6.shape
              injection e6 with e6 _ e7
              subst e6 e7
              have hw1W := HF1.out.size
              have f : Fr No w1 (w5.setCell ⟨g4, 0, none⟩ (.int .i64 (s0.1 + 1))) := f5.setCell (.inr (by show w1.heap.size ≤ g4; omega)) _
              have hlen : L.se.length = ((s0.1 + 1, s0.2) :: se').length := by rw [HS0.out]; rfl
              have eX : (L.se.flatMap sei).set 0 (.int .i64 (s0.1 + 1)) = ((s0.1 + 1, s0.2) :: se').flatMap sei := by rw [HS0.out]; rfl
              have B6 := blk_set_ne b5 (a := ⟨g4, 0, none⟩) hne' (.int .i64 (s0.1 + 1))
              have hst := HS1.out.fr f (fun _ k => k.elim)
              obtain ⟨R1, R2, R3, R4, R5⟩ := HRN.out
              have R1' := R1.no f
              have R3' := R3.fr f (fun _ _ k => k)
              have R4' := R4.no f
              have R5' := R5.fr f (fun _ _ k => k)
              rw [eX] at R6
              rw [hlen] at R6 B6
              exact ⟨_, { L with se := (s0.1 + 1, s0.2) :: se' }, hst, ⟨0, rows_lay (L := { L with se := (s0.1 + 1, s0.2) :: se' }) R1' R6 R3' HE3.out R4' R5' HE5.out⟩, B6, fun e => by
                have := congrArg Lay.se e
                rw [HS0.out] at this
                injection this with this
                have := congrArg Prod.fst this
                simp at this
                omega, GL.out.sized⟩
          · clear q1 q0 q3 q4 q5 q6 q7 q8 q9 z1 z0 z3 z5 z9 g1
            have hAp : Ap = none → cp = 0 := fun e => by
              have h1 : 0 < Mp.length := by
                have h2 := GP.out
                rw [← HE3.out, List.length_map] at h2
                exact h2
              obtain ⟨ad, e1, _⟩ := HRN.out.2.2.1.row.rd.2.2 0 (by omega)
              rw [e] at e1; cases e1
            have HAp := Lib.hid hAp
            have hml : Mp.length < 256 := by
              have h2 := GL.out.pa.1
              rw [← HE3.out, List.length_map] at h2
              exact h2
            have HML := Lib.hid hml
            have ha : (W.alloc (.cells #[] 3)).heap.size = W.heap.size + 1 := by simp
            have OW : OwnK ((W.alloc (.cells #[] 3)).alloc (.cells #[.slice (some ⟨W.heap.size, 0, none⟩) 0 0] 49)) 49 1 (.slice (some ⟨W.heap.size + 1, 0, none⟩) 1 1) 1 [.slice (some ⟨W.heap.size, 0, none⟩) 0 0] := by
              have := lit_own (n := 1) (k := 1) (blk_new (W.alloc (.cells #[] 3)) (.cells #[.slice (some ⟨W.heap.size, 0, none⟩) 0 0] 49)) rfl (by decide)
              rw [ha] at this
              exact this
            have HOW := Lib.hid OW
            have HFa := Lib.hid (((Fr.refl No W).alloc (.cells #[] 3)).alloc (.cells #[.slice (some ⟨W.heap.size, 0, none⟩) 0 0] 49))
            clear OW ha hAp hml
            go_wp2_with (at_builtin; go_loud (refine own_extend_k rfl (.tmp 73) (.tmp 75) 35 49 (.slice none 0 0) 1 24 rfl Try.underlying35 infoII rfl (by decide) (by decide) (.slice (some ⟨W.heap.size + 1, 0, none⟩) 1 1) 1 [.slice (some ⟨W.heap.size, 0, none⟩) 0 0] (ilv Mp) Ap Mp.length cp rfl rfl HAp.out ?hR (ilv_one _) HOW.out ?hl ?_))
            case hR => exact (HRN.out.2.2.1.row.rd.no HF1.out).no HFa.out
            case hl => have := HML.out; omega
            intro v4 w4 o4 f4 a4
            have hsz := HFa.out.size
            have h4 : ∀ b, v4.ownBlock = some b → b ≠ h3 := fun b hb => by
              rcases a4 with e | ⟨b', e, hb'⟩
              · rw [e] at hb; simp [Value.ownBlock] at hb; omega
              · rw [e] at hb; cases hb; omega
            have f4' : Fr No W w4 := HFa.out.trans f4 (fun k hk => .inr (by simp [Value.ownBlock] at hk; omega))
            have B4 := f4'.heap HB3.out (fun k => k)
            obtain ⟨A4, c4, rfl, _, _, hb4, R4⟩ := o4.shape
            have HFw := Lib.hid (((HF1.out.trans f4' (fun _ k => k.elim)).setCell (p := ⟨h3, 2, none⟩) (.inr (by rw [HH3.out]; exact Nat.le_refl _)) (.slice A4 (1 + Mp.length) c4)))
            have R4' := Lib.hid (R4.fr (((Fr.refl (fun k => k = h3) w4).setCell (p := ⟨h3, 2, none⟩) (.inl rfl) (.slice A4 (1 + Mp.length) c4))) (fun ad e k => h4 _ (hb4 ad e) k))
            have HB4 := Lib.hid B4
            clear z2
            have z2 := blk_free HB4.out 2
            obtain ⟨_, _, y2, _⟩ := tens HB4.out
            clear o4 f4 a4 f4' h4 B4 hb4 R4
            go_wp2
            go_meet
            case rel =>
              have hlen : 1 + Mp.length = List.length ((some ⟨W.heap.size, 0, none⟩, 0, []) :: Mp : IL) := by rw [List.length_cons]; omega
              have R := R4'.out
              have B5 := blk_set HB4.out 2 (.slice A4 (1 + Mp.length) c4)
              have f := HFw.out
              have hst := HS1.out.fr f (fun _ k => k.elim)
              obtain ⟨R1, R2, R3, R4, R5⟩ := HRN.out
              have R3' := R3.fr f (fun _ _ k => k)
              have R1' := R1.no f
              have R2' := R2.no f
              have R4'' := R4.no f
              have R5' := R5.fr f (fun _ _ k => k)
              rw [hlen] at R B5 R1' R2' R3' R4'' R5' hst ⊢
              exact ⟨_, { L with pa := [] :: L.pa }, hst, ⟨0, rows_lay (L := { L with pa := [] :: L.pa }) (Mp := (some ⟨W.heap.size, 0, none⟩, 0, []) :: Mp) R1' R2' ⟨⟨R, fun _ _ => Nat.zero_le _⟩, fun x hx => by
                rcases List.mem_cons.1 hx with h | h
                · subst h; exact ⟨Rd.nil _ _, fun _ _ => Nat.zero_le _, fun e => by cases e⟩
                · exact R3'.each x h⟩ (by rw [List.map_cons, HE3.out]) R4'' R5' HE5.out⟩, B5, fun e => by have := congrArg (fun L => L.pa.length) e; simp at this, GL.out.sized⟩
          · clear q1 q2 q0 q4 q5 q6 q7 q8 q9 z1 z2 z0 z5 z9 g1
            have HOW := Lib.hid (lit_own (n := 1) (k := 4) (blk_new W (.cells #[.int .i64 0, .int .i64 0, .int .i64 0, .int .i64 0] 51)) rfl (by decide))
            have HFa := Lib.hid ((Fr.refl No W).alloc (.cells #[.int .i64 0, .int .i64 0, .int .i64 0, .int .i64 0] 51))
            cases Aq with
            | none =>
              have hpo : L.po = [] := by
                cases h : L.po with
                | nil => rfl
                | cons x l =>
                  obtain ⟨ad, e1, _⟩ := HRN.out.2.2.2.1.2.2 0 (by rw [h]; simp)
                  cases e1
              have HPO := Lib.hid hpo
              have hp0 : L.po.length = 0 := by rw [hpo]; rfl
              clear hpo
              go_wp2
              go_meet
              case rel =>
                obtain ⟨w5, hw5⟩ : ∃ x, W.setCell ⟨h3, 3, none⟩ (.slice (some ⟨W.heap.size, 0, none⟩) 1 1) = x := ⟨_, rfl⟩
                have hs5 : w5.heap.size = W.heap.size := by rw [← hw5]; simp [World.setCell]
                have b5 := blk_set HB3.out 3 (.slice (some ⟨W.heap.size, 0, none⟩) 1 1)
                have f5 : Fr No w1 (W.setCell ⟨h3, 3, none⟩ (.slice (some ⟨W.heap.size, 0, none⟩) 1 1)) := HF1.out.setCell (.inr (by rw [HH3.out]; exact Nat.le_refl _)) _
                rw [hw5] at b5 f5 ⊢
                have f := f5.alloc (.cells #[.int .i64 0, .int .i64 0, .int .i64 0, .int .i64 0] 51)
                have bn := blk_new w5 (.cells #[.int .i64 0, .int .i64 0, .int .i64 0, .int .i64 0] 51)
                rw [hs5] at bn
                have R : RdK (w5.alloc (.cells #[.int .i64 0, .int .i64 0, .int .i64 0, .int .i64 0] 51)) (some ⟨W.heap.size, 0, none⟩) 4 1 [.int .i64 0, .int .i64 0, .int .i64 0, .int .i64 0] := lit_rdk bn rfl (by omega)
                have B6 := blk_alloc b5 (.cells #[.int .i64 0, .int .i64 0, .int .i64 0, .int .i64 0] 51)
                have hlen : 1 = (((0 : Int), (0 : Int), (0 : Int), (0 : Int)) :: L.po).length := by rw [HPO.out]; rfl
                have hst := HS1.out.fr f (fun _ k => k.elim)
                obtain ⟨R1, R2, R3, R4, R5⟩ := HRN.out
                have R' : RdK (w5.alloc (.cells #[.int .i64 0, .int .i64 0, .int .i64 0, .int .i64 0] 51)) (some ⟨W.heap.size, 0, none⟩) 4 (((0 : Int), (0 : Int), (0 : Int), (0 : Int)) :: L.po).length ((((0 : Int), (0 : Int), (0 : Int), (0 : Int)) :: L.po).flatMap poi) := by
                  rw [HPO.out]
                  exact R
                have B7 : (w5.alloc (.cells #[.int .i64 0, .int .i64 0, .int .i64 0, .int .i64 0] 51)).heap[h3]? = some (.cells (lcs An L.no.length cn As L.se.length cs Ap Mp.length cp (some ⟨W.heap.size, 0, none⟩) (((0 : Int), (0 : Int), (0 : Int), (0 : Int)) :: L.po).length 1 Ar Mr.length cr L.sp L.mu L.wa L.ca L.st) 38 (0, 0)) := by
                  rw [← hlen]
                  exact B6
                exact ⟨_, { L with po := (0, 0, 0, 0) :: L.po }, hst, ⟨0, rows_lay (L := { L with po := (0, 0, 0, 0) :: L.po }) (R1.no f) (R2.no f) (R3.fr f (fun _ _ k => k)) HE3.out R' (R5.fr f (fun _ _ k => k)) HE5.out⟩, B7, fun e => by have := congrArg (fun L => L.po.length) e; simp at this, GL.out.sized⟩
            | some aq =>
              go_wp2_with (at_builtin; go_loud (refine own_extend_k rfl (.tmp 32) (.tmp 34) 36 51 (.agg #[.int .i64 0, .int .i64 0, .int .i64 0, .int .i64 0]) 4 32 rfl Try.underlying36 infoP rfl (by decide) (by decide) (.slice (some ⟨W.heap.size, 0, none⟩) 1 1) 1 [.int .i64 0, .int .i64 0, .int .i64 0, .int .i64 0] (L.po.flatMap poi) (some aq) L.po.length cq rfl rfl (fun e => by cases e) ?hR (flat_one poi poi_one _) HOW.out ?hl ?_))
              case hR => exact (HRN.out.2.2.2.1.no HF1.out).no HFa.out
              case hl => have := GL.out.po.1; omega
              intro v4 w4 o4 f4 a4
              have hsz := HFa.out.size
              have h4 : ∀ b, v4.ownBlock = some b → b ≠ h3 := fun b hb => by
                rcases a4 with e | ⟨b', e, hb'⟩
                · rw [e] at hb; simp [Value.ownBlock] at hb; omega
                · rw [e] at hb; cases hb; omega
              have f4' : Fr No W w4 := HFa.out.trans f4 (fun k hk => .inr (by simp [Value.ownBlock] at hk; omega))
              have B4 := f4'.heap HB3.out (fun k => k)
              obtain ⟨A4, c4, rfl, _, _, hb4, R4⟩ := o4.shape
              have HFw := Lib.hid (((HF1.out.trans f4' (fun _ k => k.elim)).setCell (p := ⟨h3, 3, none⟩) (.inr (by rw [HH3.out]; exact Nat.le_refl _)) (.slice A4 (1 + L.po.length) c4)))
              have R4' := Lib.hid (R4.fr (((Fr.refl (fun k => k = h3) w4).setCell (p := ⟨h3, 3, none⟩) (.inl rfl) (.slice A4 (1 + L.po.length) c4))) (fun ad e k => h4 _ (hb4 ad e) k))
              have HB4 := Lib.hid B4
              clear z3
              have z3 := blk_free HB4.out 3
              obtain ⟨_, _, _, y3, _⟩ := tens HB4.out
              clear o4 f4 a4 f4' h4 B4 hb4 R4
              go_wp2
              go_meet
              case rel =>
                have hlen : 1 + L.po.length = (((0 : Int), (0 : Int), (0 : Int), (0 : Int)) :: L.po).length := by rw [List.length_cons]; omega
                have R := R4'.out
                have B5 := blk_set HB4.out 3 (.slice A4 (1 + L.po.length) c4)
                have f := HFw.out
                have hst := HS1.out.fr f (fun _ k => k.elim)
                obtain ⟨R1, R2, R3, R4, R5⟩ := HRN.out
                have R3' := R3.fr f (fun _ _ k => k)
                have R1' := R1.no f
                have R2' := R2.no f
                have R5' := R5.fr f (fun _ _ k => k)
                rw [hlen] at R B5 R1' R2' R3' R5' hst ⊢
                exact ⟨_, { L with po := (0, 0, 0, 0) :: L.po }, hst, ⟨0, rows_lay (L := { L with po := (0, 0, 0, 0) :: L.po }) R1' R2' R3' HE3.out R R5' HE5.out⟩, B5, fun e => by have := congrArg (fun L => L.po.length) e; simp at this, GL.out.sized⟩
        case rest =>
          obtain ⟨X, N, H5⟩ := hcut
          obtain ⟨w5, hw5⟩ : ∃ w5, wc = w5 := ⟨_, rfl⟩
          subst hw5
          obtain ⟨⟨I1, I2, B1, B2, F5, _⟩, ⟨bN, V3⟩, B3, hN, hsN⟩ := H5.out
          have HV1 := Lib.hid I1.v
          have HV2 := Lib.hid I2.v
          have HV3 := Lib.hid V3
          obtain ⟨An, cn, As, cs, Ap, cp, Aq, cq, Ar, cr, Mp, Mr, rfl, _⟩ := I1
          obtain ⟨An', cn', As', cs', Ap', cp', Aq', cq', Ar', cr', Mp', Mr', rfl, _⟩ := I2
          obtain ⟨An2, cn2, As2, cs2, Ap2, cp2, Aq2, cq2, Ar2, cr2, Mp2, Mr2, rfl, _⟩ := V3
          have HF5 := Lib.hid (HF3.out.trans F5 (fun _ k => k.elim))
          have HN := Lib.hid hN
          have HSN := Lib.hid hsN
          have HB1 := Lib.hid B1
          have HB2 := Lib.hid B2
          have HB3 := Lib.hid B3
          clear F5 hN hsN B1 B2 B3 H5
          have S1 : Hid (∀ W, Fr No wc W → Calls Try.prog 20 #[.agg #[.slice An L.no.length cn, .slice As L.se.length cs, .slice Ap Mp.length cp, .slice Aq L.po.length cq, .slice Ar Mr.length cr, .int .i64 L.sp, .int .i64 L.mu, .int .i64 L.wa, .int .i64 L.ca, .int .i64 L.st], .agg #[.slice An' M.no.length cn', .slice As' M.se.length cs', .slice Ap' Mp'.length cp', .slice Aq' M.po.length cq', .slice Ar' Mr'.length cr', .int .i64 M.sp, .int .i64 M.mu, .int .i64 M.wa, .int .i64 M.ca, .int .i64 M.st]] W fun e w' => e = .returned (.bool (sameL L M)) ∧ Fr No wc w') := by
            show ∀ W, _
            intro W hW
            exact (lsame_any (HV1.out.fr hW (fun _ _ k => k)) (HV2.out.fr hW (fun _ _ k => k)) GL.out.sized GM.out.sized).mono fun _ _ ⟨h1, h2⟩ => ⟨h1, hW.trans h2 (fun _ k => k.elim)⟩
          have S2 : Hid (∀ W, Fr No wc W → Calls Try.prog 19 #[.agg #[.slice An L.no.length cn, .slice As L.se.length cs, .slice Ap Mp.length cp, .slice Aq L.po.length cq, .slice Ar Mr.length cr, .int .i64 L.sp, .int .i64 L.mu, .int .i64 L.wa, .int .i64 L.ca, .int .i64 L.st], .agg #[.slice An' M.no.length cn', .slice As' M.se.length cs', .slice Ap' Mp'.length cp', .slice Aq' M.po.length cq', .slice Ar' Mr'.length cr', .int .i64 M.sp, .int .i64 M.mu, .int .i64 M.wa, .int .i64 M.ca, .int .i64 M.st]] W fun e w' => e = .returned (.bool (sameL L M)) ∧ Fr No wc w') := by
            show ∀ W, _
            intro W hW
            exact (rlsame_any (HV1.out.fr hW (fun _ _ k => k)) (HV2.out.fr hW (fun _ _ k => k)) GL.out.sized GM.out.sized).mono fun _ _ ⟨h1, h2⟩ => ⟨h1, hW.trans h2 (fun _ k => k.elim)⟩
          have S3 : Hid (∀ W, Fr No wc W → Calls Try.prog 20 #[.agg #[.slice An L.no.length cn, .slice As L.se.length cs, .slice Ap Mp.length cp, .slice Aq L.po.length cq, .slice Ar Mr.length cr, .int .i64 L.sp, .int .i64 L.mu, .int .i64 L.wa, .int .i64 L.ca, .int .i64 L.st], .agg #[.slice An L.no.length cn, .slice As L.se.length cs, .slice Ap Mp.length cp, .slice Aq L.po.length cq, .slice Ar Mr.length cr, .int .i64 L.sp, .int .i64 L.mu, .int .i64 L.wa, .int .i64 L.ca, .int .i64 L.st]] W fun e w' => e = .returned (.bool true) ∧ Fr No wc w') := by
            show ∀ W, _
            intro W hW
            refine (lsame_any (HV1.out.fr hW (fun _ _ k => k)) (HV1.out.fr hW (fun _ _ k => k)) GL.out.sized GL.out.sized).mono fun _ _ ⟨h1, h2⟩ => ⟨?_, hW.trans h2 (fun _ k => k.elim)⟩
            rw [h1, (sameL_iff L L).2 rfl]
          have S4 : Hid (∀ W, Fr No wc W → Calls Try.prog 20 #[.agg #[.slice An L.no.length cn, .slice As L.se.length cs, .slice Ap Mp.length cp, .slice Aq L.po.length cq, .slice Ar Mr.length cr, .int .i64 L.sp, .int .i64 L.mu, .int .i64 L.wa, .int .i64 L.ca, .int .i64 L.st], .agg #[.slice An2 N.no.length cn2, .slice As2 N.se.length cs2, .slice Ap2 Mp2.length cp2, .slice Aq2 N.po.length cq2, .slice Ar2 Mr2.length cr2, .int .i64 N.sp, .int .i64 N.mu, .int .i64 N.wa, .int .i64 N.ca, .int .i64 N.st]] W fun e w' => e = .returned (.bool false) ∧ Fr No wc w') := by
            show ∀ W, _
            intro W hW
            refine (lsame_any (HV1.out.fr hW (fun _ _ k => k)) (HV3.out.fr hW (fun _ _ k => k)) GL.out.sized HSN.out).mono fun _ _ ⟨h1, h2⟩ => ⟨?_, hW.trans h2 (fun _ k => k.elim)⟩
            rw [h1]
            cases h : sameL L N with
            | false => rfl
            | true => exact absurd ((sameL_iff L N).1 h).symm HN.out
          obtain ⟨bs, hbs⟩ : ∃ b, sameL L M = b := ⟨_, rfl⟩
          rw [hbs] at S1 S2
          have hbb : (bs == bs) = true := by cases bs <;> rfl
          have KC : Hid (∀ W, Fr No wc W → ((W.cell? ⟨h1, 0, none⟩ = some (.slice An L.no.length cn) ∧ W.cell? ⟨h1, 1, none⟩ = some (.slice As L.se.length cs) ∧ W.cell? ⟨h1, 2, none⟩ = some (.slice Ap Mp.length cp) ∧ W.cell? ⟨h1, 3, none⟩ = some (.slice Aq L.po.length cq) ∧ W.cell? ⟨h1, 4, none⟩ = some (.slice Ar Mr.length cr) ∧ W.cell? ⟨h1, 5, none⟩ = some (.int .i64 L.sp) ∧ W.cell? ⟨h1, 6, none⟩ = some (.int .i64 L.mu) ∧ W.cell? ⟨h1, 7, none⟩ = some (.int .i64 L.wa) ∧ W.cell? ⟨h1, 8, none⟩ = some (.int .i64 L.ca) ∧ W.cell? ⟨h1, 9, none⟩ = some (.int .i64 L.st)) ∧
            (W.cell? ⟨h2, 0, none⟩ = some (.slice An' M.no.length cn') ∧ W.cell? ⟨h2, 1, none⟩ = some (.slice As' M.se.length cs') ∧ W.cell? ⟨h2, 2, none⟩ = some (.slice Ap' Mp'.length cp') ∧ W.cell? ⟨h2, 3, none⟩ = some (.slice Aq' M.po.length cq') ∧ W.cell? ⟨h2, 4, none⟩ = some (.slice Ar' Mr'.length cr') ∧ W.cell? ⟨h2, 5, none⟩ = some (.int .i64 M.sp) ∧ W.cell? ⟨h2, 6, none⟩ = some (.int .i64 M.mu) ∧ W.cell? ⟨h2, 7, none⟩ = some (.int .i64 M.wa) ∧ W.cell? ⟨h2, 8, none⟩ = some (.int .i64 M.ca) ∧ W.cell? ⟨h2, 9, none⟩ = some (.int .i64 M.st)) ∧
            (W.cell? ⟨h3, 0, none⟩ = some (.slice An2 N.no.length cn2) ∧ W.cell? ⟨h3, 1, none⟩ = some (.slice As2 N.se.length cs2) ∧ W.cell? ⟨h3, 2, none⟩ = some (.slice Ap2 Mp2.length cp2) ∧ W.cell? ⟨h3, 3, none⟩ = some (.slice Aq2 N.po.length cq2) ∧ W.cell? ⟨h3, 4, none⟩ = some (.slice Ar2 Mr2.length cr2) ∧ W.cell? ⟨h3, 5, none⟩ = some (.int .i64 N.sp) ∧ W.cell? ⟨h3, 6, none⟩ = some (.int .i64 N.mu) ∧ W.cell? ⟨h3, 7, none⟩ = some (.int .i64 N.wa) ∧ W.cell? ⟨h3, 8, none⟩ = some (.int .i64 N.ca) ∧ W.cell? ⟨h3, 9, none⟩ = some (.int .i64 N.st)))) := by
            show ∀ W, _
            intro W hW
            exact ⟨tens (hW.heap HB1.out (fun k => k)), tens (hW.heap HB2.out (fun k => k)), tens (hW.heap HB3.out (fun k => k))⟩
          go_upto_region 18 with (fail)
          have FD := (Fr.refl No wc).drew
          have FQ := Fr.refl No wc
          go_region_held3 (fun W => ((W.cell? ⟨h1, 0, none⟩ = some (.slice An L.no.length cn) ∧ W.cell? ⟨h1, 1, none⟩ = some (.slice As L.se.length cs) ∧ W.cell? ⟨h1, 2, none⟩ = some (.slice Ap Mp.length cp) ∧ W.cell? ⟨h1, 3, none⟩ = some (.slice Aq L.po.length cq) ∧ W.cell? ⟨h1, 4, none⟩ = some (.slice Ar Mr.length cr) ∧ W.cell? ⟨h1, 5, none⟩ = some (.int .i64 L.sp) ∧ W.cell? ⟨h1, 6, none⟩ = some (.int .i64 L.mu) ∧ W.cell? ⟨h1, 7, none⟩ = some (.int .i64 L.wa) ∧ W.cell? ⟨h1, 8, none⟩ = some (.int .i64 L.ca) ∧ W.cell? ⟨h1, 9, none⟩ = some (.int .i64 L.st)) ∧
            (W.cell? ⟨h2, 0, none⟩ = some (.slice An' M.no.length cn') ∧ W.cell? ⟨h2, 1, none⟩ = some (.slice As' M.se.length cs') ∧ W.cell? ⟨h2, 2, none⟩ = some (.slice Ap' Mp'.length cp') ∧ W.cell? ⟨h2, 3, none⟩ = some (.slice Aq' M.po.length cq') ∧ W.cell? ⟨h2, 4, none⟩ = some (.slice Ar' Mr'.length cr') ∧ W.cell? ⟨h2, 5, none⟩ = some (.int .i64 M.sp) ∧ W.cell? ⟨h2, 6, none⟩ = some (.int .i64 M.mu) ∧ W.cell? ⟨h2, 7, none⟩ = some (.int .i64 M.wa) ∧ W.cell? ⟨h2, 8, none⟩ = some (.int .i64 M.ca) ∧ W.cell? ⟨h2, 9, none⟩ = some (.int .i64 M.st)) ∧
            (W.cell? ⟨h3, 0, none⟩ = some (.slice An2 N.no.length cn2) ∧ W.cell? ⟨h3, 1, none⟩ = some (.slice As2 N.se.length cs2) ∧ W.cell? ⟨h3, 2, none⟩ = some (.slice Ap2 Mp2.length cp2) ∧ W.cell? ⟨h3, 3, none⟩ = some (.slice Aq2 N.po.length cq2) ∧ W.cell? ⟨h3, 4, none⟩ = some (.slice Ar2 Mr2.length cr2) ∧ W.cell? ⟨h3, 5, none⟩ = some (.int .i64 N.sp) ∧ W.cell? ⟨h3, 6, none⟩ = some (.int .i64 N.mu) ∧ W.cell? ⟨h3, 7, none⟩ = some (.int .i64 N.wa) ∧ W.cell? ⟨h3, 8, none⟩ = some (.int .i64 N.ca) ∧ W.cell? ⟨h3, 9, none⟩ = some (.int .i64 N.st))))
            (exact KC.out _ (by assumption))
            (first
              | (go_at_call 19; with_reducible refine (S2.out _ ?_).mono ?_; assumption; rintro e wa ⟨rfl, Fa⟩)
              | (go_at_call 20; with_reducible refine (S1.out _ ?_).mono ?_; assumption; rintro e wa ⟨rfl, Fa⟩)
              | (go_at_call 20; with_reducible refine (S3.out _ ?_).mono ?_; assumption; rintro e wa ⟨rfl, Fa⟩)
              | (go_at_call 20; with_reducible refine (S4.out _ ?_).mono ?_; assumption; rintro e wa ⟨rfl, Fa⟩))
          all_goals
            go_wp2
            go_ret
            exact ⟨rfl, HF5.out.trans (T := No) (by assumption) (fun _ k => k.elim)⟩
end Go.Proofs.Ytfnlimcgoeknjaa
