import Derived.Test.YtngjfebndhmlmaaBackP
import Derived.Test.YtngjfebndhmlmaaTwoC
import Derived.Deep.RegionHeld3
import Derived.Deep.Cut
import Derived.Deep.CutBlock
namespace Go.Proofs.Ytngjfebndhmlmaa
open Go.RowKit Go

/-- A message's cells. -/
def mcs (m : Msg) (A : Option Addr) (c : Nat) : Array Value := #[.int .u8 (m.k : Int), .int .i64 m.t, .int .i64 m.tm, .int .i64 m.d, .int .i64 m.a, .bool m.wh, .slice A m.tr.length c]
def MsgIn (m : Msg) (C : Array Value) (w : World) : Prop := ∃ A c, C = mcs m A c ∧ Rd w A (ints .i64 m.tr) ∧ (A = none → c = 0)
def msgBlk (C : Array Value) (k : Nat) : Prop := ∃ ad n c, C.getD 6 undef = .slice (some ad) n c ∧ 0 < n ∧ ad.block = k
theorem msgIn_fr {m : Msg} (C : Array Value) (w w' : World) (S : Nat → Prop) (h : MsgIn m C w) (f : Fr S w w') (hS : ∀ k, msgBlk C k → ¬ S k) : MsgIn m C w' := by
  obtain ⟨A, c, rfl, R, h2⟩ := h
  refine ⟨A, c, rfl, ?_, h2⟩
  by_cases h0 : m.tr.length = 0
  · have : m.tr = [] := List.eq_nil_of_length_eq_zero h0
    rw [this]
    exact Rd.nil _ _
  · exact R.fr f fun ad e => hS _ ⟨ad, m.tr.length, c, by rw [e]; rfl, Nat.pos_of_ne_zero h0, rfl⟩
theorem of_cells {A : Option Addr} {c : Nat} {K t0 d0 m0 a0 : Nat} {wh : Bool} {tl : List UInt8} {w : World} (hR : Rd w A (bys tl)) :
    Calls Try.prog 14 #[.agg #[.int .u8 (K : Int), .int .u8 (t0 : Int), .int .u8 (d0 : Int), .int .u32 (m0 : Int), .int .u16 (a0 : Int), .bool wh, .slice A tl.length c]] w fun e w' => ∃ C, e = .returned (.agg C) ∧ MsgIn (ofM K t0 d0 m0 a0 wh tl) C w' ∧ (∀ k, msgBlk C k → w.heap.size ≤ k ∧ k < w'.heap.size) ∧ Fr No w w' := by
  refine (of_new hR).mono ?_
  rintro e w' ⟨A', c', rfl, R, F, N⟩
  refine ⟨_, rfl, ⟨A', c', rfl, R, N.out.2⟩, ?_, F⟩
  rintro k ⟨ad, n, c2, h, hn, rfl⟩
  have h2 : Value.slice A' (ofM K t0 d0 m0 a0 wh tl).tr.length c' = .slice (some ad) n c2 := h
  injection h2 with e1 e2 e3
  exact ⟨N.out.1 ad e1, by
    rw [e1] at R
    exact R.lt (by rw [ints_length, e2]; exact hn)⟩

theorem m_size (m : Msg) (A : Option Addr) (c : Nat) : (mcs m A c).size = 7 := rfl
theorem m_one (m : Msg) (A : Option Addr) (c : Nat) : (mcs m A c).all (·.oneCell') = true := by simp [mcs, Value.oneCell']

theorem msgIn_lt {m : Msg} {C : Array Value} {w : World} (h : MsgIn m C w) {k : Nat} (hk : msgBlk C k) : k < w.heap.size := by
  obtain ⟨A, c, rfl, R, _⟩ := h
  obtain ⟨ad, n, c2, e, hn, rfl⟩ := hk
  have h2 : Value.slice A m.tr.length c = .slice (some ad) n c2 := e
  injection h2 with e1 e2 e3
  subst e1
  exact R.lt (by rw [ints_length, e2]; exact hn)
structure Rel (m n : Msg) (C D : Array Value) (h1 h2 h3 : Nat) (w0 : World) (X : Array Value) (m' : Msg) (w : World) : Prop where
  c : MsgIn m C w
  d : MsgIn n D w
  x : MsgIn m' X w
  b1 : w.heap[h1]? = some (.cells C 34 (0, 0))
  b2 : w.heap[h2]? = some (.cells D 34 (0, 0))
  b3 : w.heap[h3]? = some (.cells X 34 (0, 0))
  f : Fr No w0 w
theorem Rel.no {m n : Msg} {C D : Array Value} {h1 h2 h3 : Nat} {w0 w w' : World} {X : Array Value} {m' : Msg} (h : Rel m n C D h1 h2 h3 w0 X m' w) (f : Fr No w w') : Rel m n C D h1 h2 h3 w0 X m' w' :=
  ⟨msgIn_fr _ _ _ _ h.c f (fun _ _ k => k), msgIn_fr _ _ _ _ h.d f (fun _ _ k => k), msgIn_fr _ _ _ _ h.x f (fun _ _ k => k), f.heap h.b1 (fun k => k), f.heap h.b2 (fun k => k), f.heap h.b3 (fun k => k), h.f.trans f (fun _ k => k.elim)⟩
theorem Rel.set {m n : Msg} {C D : Array Value} {h1 h2 h3 : Nat} {w0 w : World} {X : Array Value} {m1 : Msg} (h : Rel m n C D h1 h2 h3 w0 X m1 w) (hne : h1 ≠ h3 ∧ h2 ≠ h3) (hb : (∀ k, msgBlk C k → k ≠ h3) ∧ ∀ k, msgBlk D k → k ≠ h3) (h0 : w0.heap.size ≤ h3) (j : Nat) (v : Value) (m' : Msg) (A' : Option Addr) (c' : Nat)
    (hX : X.setIfInBounds j v = mcs m' A' c') (R : Rd w A' (ints .i64 m'.tr)) (N : A' = none → c' = 0) (hA : ∀ k, msgBlk (mcs m' A' c') k → k ≠ h3) : Rel m n C D h1 h2 h3 w0 (mcs m' A' c') m' (w.setCell ⟨h3, j, none⟩ v) := by
  have f : Fr (fun k => k = h3) w (w.setCell ⟨h3, j, none⟩ v) := (Fr.refl (fun k => k = h3) w).setCell (p := ⟨h3, j, none⟩) (.inl rfl) v
  refine ⟨msgIn_fr _ _ _ _ h.c f hb.1, msgIn_fr _ _ _ _ h.d f hb.2, msgIn_fr _ _ _ _ ⟨A', c', rfl, R, N⟩ f hA, f.heap h.b1 hne.1, f.heap h.b2 hne.2, ?_, h.f.trans f (fun i hi => .inr (by rw [show i = h3 from hi]; exact h0))⟩
  rw [← hX]
  exact blk_set h.b3 j v
theorem msame_t {m n : Msg} (h : ¬ m.t = n.t) : msame m n = false := by simp [msame, h]
theorem msame_tm {m n : Msg} (h : ¬ m.tm = n.tm) : msame m n = false := by simp [msame, h]
theorem msame_d {m n : Msg} (h : ¬ m.d = n.d) : msame m n = false := by simp [msame, h]
theorem msame_tr {m n : Msg} (h : ¬ m.tr = n.tr) : msame m n = false := by simp [msame, h]
theorem ints_one (l : List Int) : ∀ u ∈ ints .i64 l, u.oneCell' = true := by
  intro u hu
  obtain ⟨x, _, rfl⟩ := List.mem_map.1 hu
  rfl

set_option maxRecDepth 20000 in
set_option maxHeartbeats 4000000 in
theorem messageSame_any {A B : Option Addr} {c d : Nat} {K t0 d0 m0 a0 K' t0' d0' m0' a0' : Nat} {wh wh' : Bool} {tl tl' : List UInt8} {w : World} (what : Int) (hwt : 0 ≤ what ∧ what < 256) (hR : Rd w A (bys tl)) (hR' : Rd w B (bys tl')) :
    Calls Try.prog 8 #[.agg #[.int .u8 (K : Int), .int .u8 (t0 : Int), .int .u8 (d0 : Int), .int .u32 (m0 : Int), .int .u16 (a0 : Int), .bool wh, .slice A tl.length c], .agg #[.int .u8 (K' : Int), .int .u8 (t0' : Int), .int .u8 (d0' : Int), .int .u32 (m0' : Int), .int .u16 (a0' : Int), .bool wh', .slice B tl'.length d], .int .u8 what] w fun e w' => e = .returned (.bool true) ∧ Fr No w w' := by
  obtain ⟨SA, hSA⟩ : ∃ SA, (#[.int .u8 (K : Int), .int .u8 (t0 : Int), .int .u8 (d0 : Int), .int .u32 (m0 : Int), .int .u16 (a0 : Int), .bool wh, .slice A tl.length c] : Array Value) = SA := ⟨_, rfl⟩
  obtain ⟨SB, hSB⟩ : ∃ SB, (#[.int .u8 (K' : Int), .int .u8 (t0' : Int), .int .u8 (d0' : Int), .int .u32 (m0' : Int), .int .u16 (a0' : Int), .bool wh', .slice B tl'.length d] : Array Value) = SB := ⟨_, rfl⟩
  have F0 := ((Fr.refl No w).alloc (.cells SA 29)).alloc (.cells SB 29)
  have BA : ((w.alloc (.cells SA 29)).alloc (.cells SB 29)).heap[w.heap.size]? = some (.cells SA 29 (0, 0)) := blk_alloc (blk_new _ _) _
  have BB : ((w.alloc (.cells SA 29)).alloc (.cells SB 29)).heap[(w.alloc (.cells SA 29)).heap.size]? = some (.cells SB 29 (0, 0)) := blk_new _ _
  obtain ⟨g, hg⟩ : ∃ g, w.heap.size = g := ⟨_, rfl⟩
  rw [hg] at BA
  rw [show (w.alloc (.cells SA 29)).heap.size = g + 1 by simp [hg]] at BB
  obtain ⟨w0, hw0⟩ : ∃ w0, (w.alloc (.cells SA 29)).alloc (.cells SB 29) = w0 := ⟨_, rfl⟩
  rw [hw0] at BA BB F0
  have HBA := Lib.hid BA
  have HBB := Lib.hid BB
  have HF0 := Lib.hid F0
  have HR := Lib.hid (hR.no F0)
  have HR' := Lib.hid (hR'.no F0)
  have HSA := Lib.hid hSA
  have HSB := Lib.hid hSB
  have iA : SA.size = 7 := by rw [← hSA]; rfl
  have iB : SB.size = 7 := by rw [← hSB]; rfl
  have HIA := Lib.hid iA
  have HIB := Lib.hid iB
  have OA : Hid (∀ W, Fr No w0 W → Calls Try.prog 14 #[.agg SA] W fun e w' => ∃ C, e = .returned (.agg C) ∧ MsgIn (ofM K t0 d0 m0 a0 wh tl) C w' ∧ (∀ k, msgBlk C k → W.heap.size ≤ k ∧ k < w'.heap.size) ∧ Fr No W w') := by
    show ∀ W, _
    intro W hW
    rw [← hSA]
    exact of_cells (HR.out.no hW)
  have OB : Hid (∀ W, Fr No w0 W → Calls Try.prog 14 #[.agg SB] W fun e w' => ∃ C, e = .returned (.agg C) ∧ MsgIn (ofM K' t0' d0' m0' a0' wh' tl') C w' ∧ (∀ k, msgBlk C k → W.heap.size ≤ k ∧ k < w'.heap.size) ∧ Fr No W w') := by
    show ∀ W, _
    intro W hW
    rw [← hSB]
    exact of_cells (HR'.out.no hW)
  have ga := good_ofM K t0 d0 m0 a0 wh tl
  have gb := good_ofM K' t0' d0' m0' a0' wh' tl'
  obtain ⟨m, hm⟩ : ∃ m, ofM K t0 d0 m0 a0 wh tl = m := ⟨_, rfl⟩
  obtain ⟨n, hn⟩ : ∃ n, ofM K' t0' d0' m0' a0' wh' tl' = n := ⟨_, rfl⟩
  rw [hm] at OA ga
  rw [hn] at OB gb
  have GA := Lib.hid ga
  have GB := Lib.hid gb
  rw [hSA, hSB]
  obtain ⟨r, hr⟩ : ∃ r, what.tmod 6 = r := ⟨_, rfl⟩
  have hr6 : r = 0 ∨ r = 1 ∨ r = 2 ∨ r = 3 ∨ r = 4 ∨ r = 5 := by rw [Int.tmod_eq_emod_of_nonneg hwt.1] at hr; omega
  have hrw : IntKind.u8.wrap r = r := by rw [IntKind.wrap_u8]; omega
  clear hR hR' BA BB F0 ga gb hm hn hSA hSB iA iB
  go_enter Try.func8, Try.ntmps8
  go_upto_region 1 with (fail)
  clear hw0
  go_cut [7, 8] (fun p q wc => ∃ h1 h2 C D, p = .pointer (some ⟨h1, 0, none⟩) ∧ q = .pointer (some ⟨h2, 0, none⟩) ∧ Hid (MsgIn m C wc ∧ MsgIn n D wc ∧ wc.heap[h1]? = some (.cells C 34 (0, 0)) ∧ wc.heap[h2]? = some (.cells D 34 (0, 0)) ∧ Fr No w0 wc))
  case first =>
    refine wp_region_any (by kernel_rfl) ?_
    change wpAny _ _ _ _ _ _ _ (World.drew _)
    refine two_calls (f := 14) (tS := 29) (t := 34) (x0 := 3) (x1 := 4) (d0 := 10) (d1 := 11) (d2 := 12) (d3 := 13) (d4 := 7) (d5 := 8) (g0 := g) (g1 := g + 1) (n := 7) (SA := SA) (SB := SB) (Z := #[.int .u8 0, .int .i64 0, .int .i64 0, .int .i64 0, .int .i64 0, .bool false, .slice none 0 0]) (GA := MsgIn m) (GB := MsgIn n) (blk := msgBlk)
      (by kernel_rfl) rfl rfl rfl rfl rfl rfl rfl rfl rfl ⟨rfl, rfl, rfl, rfl, rfl, rfl, rfl, rfl⟩ rfl rfl rfl rfl ⟨rfl, rfl, rfl, rfl, rfl, rfl, rfl, rfl⟩ (by decide) (by simp) rfl rfl
      ?c1 ?c3 ?c4 ?c5 HBA.out HBB.out Try.underlying29 rfl ?iA ?iB (by kernel_rfl) rfl ?sA ?sB OA.out OB.out msgIn_fr msgIn_fr ?hQ
    case c1 => intro a w; go_simp
    case c3 => intro a w; go_simp
    case c4 => intro a w; go_simp
    case c5 => intro a w; go_simp
    case iA => rw [HIA.out]; kernel_rfl
    case iB => rw [HIB.out]; kernel_rfl
    case sA => rintro C w ⟨A, c, rfl, _⟩; exact ⟨m_size .., m_one ..⟩
    case sB => rintro C w ⟨A, c, rfl, _⟩; exact ⟨m_size .., m_one ..⟩
    case hQ =>
      intro s0 s2 C D h1 h2 w gC gD b1 b2 _ _ _ F _ _
      unfold six
      simp only [Act.put, List.setIfInBounds_toArray, List.set_cons_zero, List.set_cons_succ]
      go_wp2_with fail
      go_meet
      case rel => exact ⟨h1, h2, C, D, rfl, rfl, gC, gD, b1, b2, F⟩
  case rest =>
    obtain ⟨h1, h2, C, D, rfl, rfl, H0⟩ := hcut
    have HW := Lib.hid (H0.out.2.2.2.2.heap HBA.out (fun k => k))
    have H1 := Lib.hid (OA.out wc H0.out.2.2.2.2)
    go_wp2_with (first | (refine wpList_load_row rfl 29 (.tmp 3) rfl g rfl 29 _ (0, 0) _ HW.out Try.underlying29 rfl ?iS ?_))
    case iS => rw [HIA.out]; kernel_rfl
    go_wp2_with fail
    refine H1.out.mono ?_
    rintro e w1 ⟨X, rfl, ⟨A3, c3, rfl, R3, N3⟩, bX, F1⟩
    have fa : Fr No w1 (w1.alloc (.cells #[.int .u8 0, .int .i64 0, .int .i64 0, .int .i64 0, .int .i64 0, .bool false, .slice none 0 0] 34)) := (Fr.refl No w1).alloc _
    have ba : (w1.alloc (.cells #[.int .u8 0, .int .i64 0, .int .i64 0, .int .i64 0, .int .i64 0, .bool false, .slice none 0 0] 34)).heap[w1.heap.size]? = some (.cells #[.int .u8 0, .int .i64 0, .int .i64 0, .int .i64 0, .int .i64 0, .bool false, .slice none 0 0] 34 (0, 0)) := blk_new _ _
    have H3 : Hid (MsgIn m C w1 ∧ MsgIn n D w1 ∧ w1.heap[h1]? = some (.cells C 34 (0, 0)) ∧ w1.heap[h2]? = some (.cells D 34 (0, 0)) ∧ Fr No w0 w1) := ⟨msgIn_fr _ _ _ _ H0.out.1 F1 (fun _ _ k => k), msgIn_fr _ _ _ _ H0.out.2.1 F1 (fun _ _ k => k), F1.heap H0.out.2.2.1 (fun k => k), F1.heap H0.out.2.2.2.1 (fun k => k), H0.out.2.2.2.2.trans F1 (fun _ k => k.elim)⟩
    obtain ⟨W, hW⟩ : ∃ W, (w1.alloc (.cells #[.int .u8 0, .int .i64 0, .int .i64 0, .int .i64 0, .int .i64 0, .bool false, .slice none 0 0] 34)).setRow w1.heap.size (mcs m A3 c3) = W := ⟨_, rfl⟩
    have f3 : Fr No w1 W := by rw [← hW]; exact two_row fa (.inr (Nat.le_refl _))
    have b3 : W.heap[w1.heap.size]? = some (.cells (mcs m A3 c3) 34 (0, 0)) := by rw [← hW]; exact setRow_heap _ _ _ _ _ _ ba
    have l1 : h1 < w1.heap.size := blk_lt H3.out.2.2.1
    have l2 : h2 < w1.heap.size := blk_lt H3.out.2.2.2.1
    obtain ⟨h3, hh3⟩ : ∃ h3, w1.heap.size = h3 := ⟨_, rfl⟩
    rw [hh3] at ba hW
    have HBa := Lib.hid ba
    have HW2 := Lib.hid hW
    have H4 : Hid (Rel m n C D h1 h2 h3 w0 (mcs m A3 c3) m W) := ⟨msgIn_fr _ _ _ _ H3.out.1 f3 (fun _ _ k => k), msgIn_fr _ _ _ _ H3.out.2.1 f3 (fun _ _ k => k), ⟨A3, c3, rfl, R3.no f3, N3⟩, f3.heap H3.out.2.2.1 (fun k => k), f3.heap H3.out.2.2.2.1 (fun k => k), by rw [← hh3]; exact b3, H3.out.2.2.2.2.trans f3 (fun _ k => k.elim)⟩
    have HK : Hid ((h1 ≠ h3 ∧ h2 ≠ h3) ∧ ((∀ k, msgBlk C k → k ≠ h3) ∧ ∀ k, msgBlk D k → k ≠ h3) ∧ w0.heap.size ≤ h3 ∧ (∀ ad, A3 = some ad → 0 < m.tr.length → ad.block ≠ h3) ∧ Rd W A3 (ints .i64 m.tr)) := by
      refine ⟨⟨by omega, by omega⟩, ⟨fun k hk => ?_, fun k hk => ?_⟩, ?_, fun ad e h0 => ?_, R3.no f3⟩
      · have := msgIn_lt H3.out.1 hk; omega
      · have := msgIn_lt H3.out.2.1 hk; omega
      · rw [← hh3]; exact H3.out.2.2.2.2.size
      · subst e
        have := R3.lt (by rw [ints_length]; exact h0)
        omega
    have HN3 := Lib.hid N3
    have l3 : h3 < W.heap.size := blk_lt H4.out.b3
    have HL3 := Lib.hid l3
    clear fa ba f3 b3 l1 l2 l3 H3 H0 HW H1 F1 bX R3 N3 hW
    go_upto_block 0 with (first | (refine wpList_store_row rfl 34 (.tmp 9) (.tmp 15) rfl h3 (mcs m A3 c3) rfl rfl 34 _ HBa.out (by kernel_rfl) rfl (m_one m A3 c3) ?_; rw [HW2.out]))
    go_cut [] (fun wx => ∃ X m', Hid (Rel m n C D h1 h2 h3 w0 X m' wx ∧ msame m m' = false))
    case first =>
      obtain ⟨q0, q1, q2, q3, q4, q5, q6, z0, z1, z2, z3, z4, z5, z6⟩ := seven H4.out.b3
      have g1 := GA.out.k
      have g2 := GA.out.t
      have g3 := GA.out.tm
      have g4 := GA.out.d
      have HB3 : Hid (∀ m' : Msg, m'.tr = m.tr → ∀ k, msgBlk (mcs m' A3 c3) k → k ≠ h3) := by
        show ∀ m' : Msg, _
        intro m' e k hk
        obtain ⟨ad, n', c2, e2, hn', rfl⟩ := hk
        have h2 : Value.slice A3 m'.tr.length c3 = .slice (some ad) n' c2 := e2
        injection h2 with e3 e4 e5
        exact HK.out.2.2.2.1 ad e3 (by rw [← e, e4]; exact hn')
      rcases hr6 with rfl | rfl | rfl | rfl | rfl | rfl
      · have j1 : IntKind.u8.wrap ((m.k : Int) + 1) = (m.k : Int) + 1 := by rw [IntKind.wrap_u8]; omega
        clear q1 q2 q3 q4 q5 q6 z1 z2 z3 z4 z5 z6
        go_wp2
        go_meet
        case rel => exact ⟨_, { m with k := m.k + 1 }, H4.out.set HK.out.1 HK.out.2.1 HK.out.2.2.1 0 _ _ A3 c3 rfl HK.out.2.2.2.2 HN3.out (HB3.out _ rfl), by simp [msame]⟩
      · have j1 : IntKind.i64.wrap (m.t + 1) = m.t + 1 := by rw [IntKind.wrap_i64]; omega
        clear q0 q2 q3 q4 q5 q6 z0 z2 z3 z4 z5 z6
        go_wp2
        go_meet
        case rel => exact ⟨_, { m with t := m.t + 1 }, H4.out.set HK.out.1 HK.out.2.1 HK.out.2.2.1 1 _ _ A3 c3 rfl HK.out.2.2.2.2 HN3.out (HB3.out _ rfl), msame_t (by simp only; omega)⟩
      · have j1 : IntKind.i64.wrap (m.tm + 1) = m.tm + 1 := by rw [IntKind.wrap_i64]; omega
        clear q1 q0 q3 q4 q5 q6 z1 z0 z3 z4 z5 z6
        go_wp2
        go_meet
        case rel => exact ⟨_, { m with tm := m.tm + 1 }, H4.out.set HK.out.1 HK.out.2.1 HK.out.2.2.1 2 _ _ A3 c3 rfl HK.out.2.2.2.2 HN3.out (HB3.out _ rfl), msame_tm (by simp only; omega)⟩
      · clear q1 q2 q0 q4 q5 q6 z1 z2 z0 z4 z5 z6
        go_wp2
        go_meet
        case rel => exact ⟨_, { m with d := 5 }, H4.out.set HK.out.1 HK.out.2.1 HK.out.2.2.1 3 _ _ A3 c3 rfl HK.out.2.2.2.2 HN3.out (HB3.out _ rfl), msame_d (by simp only; omega)⟩
      · clear q1 q2 q3 q4 q0 q6 z1 z2 z3 z4 z0 z6
        go_wp2
        go_meet
        case rel => exact ⟨_, { m with wh := !m.wh }, H4.out.set HK.out.1 HK.out.2.1 HK.out.2.2.1 5 _ _ A3 c3 rfl HK.out.2.2.2.2 HN3.out (HB3.out _ rfl), by cases h : m.wh <;> simp [msame, h]⟩
      · clear q1 q2 q3 q4 q5 q0 z1 z2 z3 z4 z5 z0
        have hl15 := GA.out.len
        have HQ6 := Lib.hid q6
        have HZ6 := Lib.hid z6
        go_wp2_with (at_builtin; refine own_extend rfl (.const (.slice none 0 0)) (.tmp 19) 32 3 (.int .i64 0) 8 rfl Try.underlying32 infoInt rfl (by decide) (.slice none 0 0) [] (ints .i64 m.tr) A3 m.tr.length c3 rfl rfl ?hn HN3.out HK.out.2.2.2.2 (ints_one m.tr) (Own.nil _ _) ?hl ?_)
        case hn => rw [ints_length]
        case hl => simp [ints_length]; omega
        intro v1 w4 o4 f4 a4
        have f4' : Fr No W w4 := f4.mono (fun i hi => by simp [Value.ownBlock] at hi)
        have b4 : ∀ k, v1.ownBlock = some k → W.heap.size ≤ k := by
          intro k hk
          rcases a4 with e | ⟨b, e, hb⟩
          · rw [e] at hk; simp [Value.ownBlock] at hk
          · rw [e] at hk; cases hk; exact hb
        have HO4 : Hid (Own w4 3 v1 (ints .i64 m.tr)) := by show Own _ _ _ _; simpa using o4
        have HF4 := Lib.hid f4'
        have HB4 := Lib.hid b4
        clear o4 f4 a4 f4' b4 q6 z6
        go_wp2_with (at_builtin; go_loud (refine own_append rfl (.tmp 20) (.tmp 21) 32 3 (.int .i64 0) 8 rfl Try.underlying32 infoInt rfl (by decide) _ (ints .i64 m.tr) (.int .i64 3) _ rfl rfl rfl rfl HO4.out ?hl2 ?_))
        case hl2 => rw [ints_length]; omega
        intro v2 w5 o5 f5 a5
        have F5 : Fr No W w5 := HF4.out.trans f5 (fun i hi => .inr (HB4.out i hi))
        have o5' : Own w5 3 v2 (ints .i64 (m.tr ++ [3])) := by rw [ints_append]; exact o5
        have b5 : ∀ k, v2.ownBlock = some k → W.heap.size ≤ k := by
          intro k hk
          rcases a5 with e | ⟨b, e, hb⟩
          · rw [e] at hk; exact HB4.out k hk
          · rw [e] at hk; cases hk; exact Nat.le_trans HF4.out.size hb
        have H5 := Lib.hid (H4.out.no F5)
        obtain ⟨A5, c5, rfl, hA5, _, R5⟩ := o5'.shape2
        obtain ⟨A6, c6, e6, _, hB5, _⟩ := o5'.shape
        injection e6 with e7 e8 e9
        subst e7
        clear e8 e9
        rw [ints_length] at b5 hB5 ⊢
        have HB5 : Hid (∀ k, msgBlk (mcs { m with tr := m.tr ++ [3] } A5 c5) k → k ≠ h3) := by
          show ∀ k, _
          rintro k ⟨ad, n', c2, e2, hn', rfl⟩
          have h2 : Value.slice A5 (m.tr ++ [3]).length c5 = .slice (some ad) n' c2 := e2
          injection h2 with e3 e4 e5
          have := b5 _ (hB5 ad e3)
          have := HL3.out
          omega
        have HR5 := Lib.hid R5
        have HA5 := Lib.hid hA5
        obtain ⟨_, _, _, _, _, _, q6, _, _, _, _, _, _, z6⟩ := seven H5.out.b3
        clear o5 f5 a5 F5 o5' b5 R5 hA5 hB5 HO4 HF4 HB4
        go_wp2
        go_meet
        case rel => exact ⟨_, { m with tr := m.tr ++ [3] }, H5.out.set HK.out.1 HK.out.2.1 HK.out.2.2.1 6 _ _ A5 c5 (by simp [mcs]) HR5.out HA5.out HB5.out, msame_tr (by simp)⟩
    case rest =>
      obtain ⟨X, m', H5⟩ := hcut
      obtain ⟨w5, hw5⟩ : ∃ w5, wc = w5 := ⟨_, rfl⟩
      subst hw5
      obtain ⟨HX, hms⟩ := H5.out
      obtain ⟨⟨A1, c1, rfl, R1, _⟩, ⟨A2, c2, rfl, R2, _⟩, ⟨A4, c4, rfl, R4, _⟩, B1, B2, B4, F5⟩ := HX
      have HB1 := Lib.hid B1
      have HB2 := Lib.hid B2
      have HB4 := Lib.hid B4
      have HR1 := Lib.hid R1
      have HR2 := Lib.hid R2
      have HR4 := Lib.hid R4
      have HMS := Lib.hid hms
      have HF5 := Lib.hid (HF0.out.trans F5 (fun _ k => k.elim))
      clear R1 R2 R4 B1 B2 B4 F5 hms H5
      unfold mcs at HB1 HB2 HB4
      have OP : Hid (∀ W, Fr No wc W → Calls Try.prog 9 #[] W fun e w' => e = .returned (.bool true) ∧ Fr No wc w') := by
        show ∀ W, _
        intro W hW
        exact (open_law W).mono fun _ _ ⟨h1, h2⟩ => ⟨h1, hW.trans h2 (fun _ k => k.elim)⟩
      have S1 : Hid (∀ W, Fr No wc W → Calls Try.prog 19 #[mval m A1 c1, mval n A2 c2] W fun e w' => e = .returned (.bool (msame m n)) ∧ Fr No wc w') := by
        show ∀ W, _
        intro W hW
        exact (msgSame_any (HR1.out.no hW) (HR2.out.no hW)).mono fun _ _ ⟨h1, h2⟩ => ⟨h1, hW.trans h2 (fun _ k => k.elim)⟩
      have S2 : Hid (∀ W, Fr No wc W → Calls Try.prog 18 #[mval m A1 c1, mval n A2 c2] W fun e w' => e = .returned (.bool (msame m n)) ∧ Fr No wc w') := by
        show ∀ W, _
        intro W hW
        exact (refSame_any (HR1.out.no hW) (HR2.out.no hW)).mono fun _ _ ⟨h1, h2⟩ => ⟨h1, hW.trans h2 (fun _ k => k.elim)⟩
      have S3 : Hid (∀ W, Fr No wc W → Calls Try.prog 19 #[mval m A1 c1, mval m A1 c1] W fun e w' => e = .returned (.bool true) ∧ Fr No wc w') := by
        show ∀ W, _
        intro W hW
        refine (msgSame_any (HR1.out.no hW) (HR1.out.no hW)).mono fun _ _ ⟨h1, h2⟩ => ⟨?_, hW.trans h2 (fun _ k => k.elim)⟩
        rw [h1, msame_self]
      have S4 : Hid (∀ W, Fr No wc W → Calls Try.prog 19 #[mval m A1 c1, mval m' A4 c4] W fun e w' => e = .returned (.bool false) ∧ Fr No wc w') := by
        show ∀ W, _
        intro W hW
        refine (msgSame_any (HR1.out.no hW) (HR4.out.no hW)).mono fun _ _ ⟨h1, h2⟩ => ⟨?_, hW.trans h2 (fun _ k => k.elim)⟩
        rw [h1, HMS.out]
      obtain ⟨bs, hbs⟩ : ∃ b, msame m n = b := ⟨_, rfl⟩
      rw [hbs] at S1 S2
      unfold mval at S1 S2 S3 S4
      have hbb : (bs == bs) = true := by cases bs <;> rfl
      have KC : Hid (∀ W, Fr No wc W → ((W.cell? ⟨h1, 0, none⟩ = some (.int .u8 (m.k : Int)) ∧ W.cell? ⟨h1, 1, none⟩ = some (.int .i64 m.t) ∧ W.cell? ⟨h1, 2, none⟩ = some (.int .i64 m.tm) ∧ W.cell? ⟨h1, 3, none⟩ = some (.int .i64 m.d) ∧ W.cell? ⟨h1, 4, none⟩ = some (.int .i64 m.a) ∧ W.cell? ⟨h1, 5, none⟩ = some (.bool m.wh) ∧ W.cell? ⟨h1, 6, none⟩ = some (.slice A1 m.tr.length c1)) ∧
        (W.cell? ⟨h2, 0, none⟩ = some (.int .u8 (n.k : Int)) ∧ W.cell? ⟨h2, 1, none⟩ = some (.int .i64 n.t) ∧ W.cell? ⟨h2, 2, none⟩ = some (.int .i64 n.tm) ∧ W.cell? ⟨h2, 3, none⟩ = some (.int .i64 n.d) ∧ W.cell? ⟨h2, 4, none⟩ = some (.int .i64 n.a) ∧ W.cell? ⟨h2, 5, none⟩ = some (.bool n.wh) ∧ W.cell? ⟨h2, 6, none⟩ = some (.slice A2 n.tr.length c2)) ∧
        W.cell? ⟨h3, 0, none⟩ = some (.int .u8 (m'.k : Int)) ∧ W.cell? ⟨h3, 1, none⟩ = some (.int .i64 m'.t) ∧ W.cell? ⟨h3, 2, none⟩ = some (.int .i64 m'.tm) ∧ W.cell? ⟨h3, 3, none⟩ = some (.int .i64 m'.d) ∧ W.cell? ⟨h3, 4, none⟩ = some (.int .i64 m'.a) ∧ W.cell? ⟨h3, 5, none⟩ = some (.bool m'.wh) ∧ W.cell? ⟨h3, 6, none⟩ = some (.slice A4 m'.tr.length c4))) := by
        show ∀ W, _
        intro W hW
        obtain ⟨q0, q1, q2, q3, q4, q5, q6, _⟩ := seven (hW.heap HB1.out (fun k => k))
        obtain ⟨r0, r1, r2, r3, r4, r5, r6, _⟩ := seven (hW.heap HB2.out (fun k => k))
        obtain ⟨s0, s1, s2, s3, s4, s5, s6, _⟩ := seven (hW.heap HB4.out (fun k => k))
        exact ⟨⟨q0, q1, q2, q3, q4, q5, q6⟩, ⟨r0, r1, r2, r3, r4, r5, r6⟩, s0, s1, s2, s3, s4, s5, s6⟩
      go_upto_region 15 with (fail)
      have FD := (Fr.refl No wc).drew
      have FQ := Fr.refl No wc
      go_region_held3 (fun W => ((W.cell? ⟨h1, 0, none⟩ = some (.int .u8 (m.k : Int)) ∧ W.cell? ⟨h1, 1, none⟩ = some (.int .i64 m.t) ∧ W.cell? ⟨h1, 2, none⟩ = some (.int .i64 m.tm) ∧ W.cell? ⟨h1, 3, none⟩ = some (.int .i64 m.d) ∧ W.cell? ⟨h1, 4, none⟩ = some (.int .i64 m.a) ∧ W.cell? ⟨h1, 5, none⟩ = some (.bool m.wh) ∧ W.cell? ⟨h1, 6, none⟩ = some (.slice A1 m.tr.length c1)) ∧
        (W.cell? ⟨h2, 0, none⟩ = some (.int .u8 (n.k : Int)) ∧ W.cell? ⟨h2, 1, none⟩ = some (.int .i64 n.t) ∧ W.cell? ⟨h2, 2, none⟩ = some (.int .i64 n.tm) ∧ W.cell? ⟨h2, 3, none⟩ = some (.int .i64 n.d) ∧ W.cell? ⟨h2, 4, none⟩ = some (.int .i64 n.a) ∧ W.cell? ⟨h2, 5, none⟩ = some (.bool n.wh) ∧ W.cell? ⟨h2, 6, none⟩ = some (.slice A2 n.tr.length c2)) ∧
        W.cell? ⟨h3, 0, none⟩ = some (.int .u8 (m'.k : Int)) ∧ W.cell? ⟨h3, 1, none⟩ = some (.int .i64 m'.t) ∧ W.cell? ⟨h3, 2, none⟩ = some (.int .i64 m'.tm) ∧ W.cell? ⟨h3, 3, none⟩ = some (.int .i64 m'.d) ∧ W.cell? ⟨h3, 4, none⟩ = some (.int .i64 m'.a) ∧ W.cell? ⟨h3, 5, none⟩ = some (.bool m'.wh) ∧ W.cell? ⟨h3, 6, none⟩ = some (.slice A4 m'.tr.length c4)))
        (exact KC.out _ (by assumption))
        (first
          | (go_at_call 9; with_reducible refine (OP.out _ ?_).mono ?_; assumption; rintro e wa ⟨rfl, Fa⟩)
          | (go_at_call 18; with_reducible refine (S2.out _ ?_).mono ?_; assumption; rintro e wa ⟨rfl, Fa⟩)
          | (go_at_call 19; with_reducible refine (S1.out _ ?_).mono ?_; assumption; rintro e wa ⟨rfl, Fa⟩)
          | (go_at_call 19; with_reducible refine (S3.out _ ?_).mono ?_; assumption; rintro e wa ⟨rfl, Fa⟩)
          | (go_at_call 19; with_reducible refine (S4.out _ ?_).mono ?_; assumption; rintro e wa ⟨rfl, Fa⟩))
      all_goals
        go_wp2
        go_ret
        exact ⟨rfl, HF5.out.trans (T := No) (by assumption) (fun _ k => k.elim)⟩
end Go.Proofs.Ytngjfebndhmlmaa
