import Derived.Test.YtngjfebndhmlmaaLawsM
import Derived.Deep.RegionLaw
import Derived.Deep.RegionHeld3
namespace Go.Proofs.Ytngjfebndhmlmaa
open Go.RowKit Go

def low6 (l : List UInt8) : List Int := l.map fun b => ((b.toNat % 64 : Nat) : Int)
theorem low6_length (l : List UInt8) : (low6 l).length = l.length := by simp [low6]
theorem low6_take (l : List UInt8) (j : Nat) (h : j < l.length) : low6 (l.take (j + 1)) = low6 (l.take j) ++ [((((l.getD j 0).toNat % 64 : Nat)) : Int)] := by
  unfold low6
  rw [List.take_add_one, List.map_append, List.getD_eq_getElem?_getD, List.getElem?_eq_getElem h]
  rfl
/-- The message that a Say is. -/
def ofM (K t0 d0 m0 a0 : Nat) (wh : Bool) (tl : List UInt8) : Msg :=
  ⟨K % 6 + 1, ((t0 % 64 : Nat) : Int), ((m0 % 33554432 : Nat) : Int), if K % 6 + 1 = 3 then ((d0 % 2 : Nat) : Int) else 0, if K % 6 + 1 = 3 then ((a0 % 16384 : Nat) : Int) else 0, if K % 6 + 1 = 3 then wh else false, if K % 6 + 1 = 3 ∨ K % 6 + 1 = 6 then low6 (tl.take (min tl.length 15)) else []⟩
theorem results_cell1 {fn : Func} {t : Tmp} {ty : TypeId} (h : fn.results = #[.cell t ty]) (tmps : Array Value) (P : Program) (w : World) (g : Nat) (cs : Array Value)
    (ht : tmps.getD t undef = .pointer (some ⟨g, 0, none⟩)) (hl : (loadVar ty ⟨g, 0, none⟩).run P w = .ok (.agg cs) w) :
    (results fn tmps).run P w = .ok (.agg cs) w := by
  have ht' : tmps[t]?.getD undef = .pointer (some ⟨g, 0, none⟩) := by simpa using ht
  simp only [results, h]
  simp [ht', asAddr, hl]
theorem after_of {w wa w4 : World} {g : Nat} {v v4 : Value} {C2 C4 C5 Y : Obj} {e : TypeId} {xs : List Value} {n : Nat} (hn : xs.length = n) (NA : ∀ k, v.ownBlock = some k → g + 2 < k)
    (Fa : Fr No w wa) (b2 : wa.heap[g]? = some C2) (b4 : wa.heap[g + 1]? = some C4) (b5 : wa.heap[g + 2]? = some C5) (o4 : Own w4 e v4 xs) (f4 : Fr (fun k => v.ownBlock = some k) (wa.alloc Y).drew w4)
    (a4 : v4.ownBlock = v.ownBlock ∨ ∃ b, v4.ownBlock = some b ∧ (wa.alloc Y).drew.heap.size ≤ b) (hg : w.heap.size ≤ g := by assumption) :
    ∃ A4 c4, v4 = .slice A4 n c4 ∧ w4.heap[g]? = some C2 ∧ w4.heap[g + 1]? = some C4 ∧ w4.heap[g + 2]? = some C5 ∧ Fr No w w4 ∧ (∀ k, v4.ownBlock = some k → g + 2 < k) := by
  obtain ⟨A4, c4, hv4, _, _, _⟩ := o4.shape
  rw [hn] at hv4
  have f5 : Fr (fun k => v.ownBlock = some k) wa w4 := ((Fr.refl No wa).alloc Y).drew.no.trans f4 (fun i hi => .inl hi)
  refine ⟨A4, c4, hv4, f5.heap b2 (fun e => by have := NA _ e; omega), f5.heap b4 (fun e => by have := NA _ e; omega), f5.heap b5 (fun e => by have := NA _ e; omega), Fa.trans f5 (fun i hi => .inr (by have := NA _ hi; omega)), ?_⟩
  intro k hk
  rcases a4 with e | ⟨b, e, hb⟩
  · rw [e] at hk; exact NA k hk
  · rw [e] at hk; cases hk
    have h1 : wa.heap.size + 1 ≤ (wa.alloc Y).drew.heap.size := by show wa.heap.size + 1 ≤ (wa.alloc Y).heap.size; simp
    have h2 := blk_lt b5
    omega

set_option maxRecDepth 20000 in
set_option maxHeartbeats 8000000 in
theorem of_new {A : Option Addr} {c : Nat} {K t0 d0 m0 a0 : Nat} {wh : Bool} {tl : List UInt8} {w : World} (hR : Rd w A (bys tl)) :
    Calls Try.prog 14 #[.agg #[.int .u8 (K : Int), .int .u8 (t0 : Int), .int .u8 (d0 : Int), .int .u32 (m0 : Int), .int .u16 (a0 : Int), .bool wh, .slice A tl.length c]] w fun e w' => ∃ A' c', e = .returned (mval (ofM K t0 d0 m0 a0 wh tl) A' c') ∧ Rd w' A' (ints .i64 (ofM K t0 d0 m0 a0 wh tl).tr) ∧ Fr No w w' ∧ Hid ((∀ ad, A' = some ad → w.heap.size ≤ ad.block) ∧ (A' = none → c' = 0)) := by
  have HR := Lib.hid hR
  obtain ⟨n, hn⟩ : ∃ n, min tl.length 15 = n := ⟨_, rfl⟩
  have hn0 := Lib.hid hn
  obtain ⟨k, hk⟩ : ∃ k, K % 6 + 1 = k := ⟨_, rfl⟩
  obtain ⟨t, hT⟩ : ∃ t, t0 % 64 = t := ⟨_, rfl⟩
  obtain ⟨tm, hTM⟩ : ∃ tm, m0 % 33554432 = tm := ⟨_, rfl⟩
  obtain ⟨d, hD⟩ : ∃ d, d0 % 2 = d := ⟨_, rfl⟩
  obtain ⟨a, hA⟩ : ∃ a, a0 % 16384 = a := ⟨_, rfl⟩
  have HT := Lib.hid hT
  have HTM := Lib.hid hTM
  have HD := Lib.hid hD
  have HA := Lib.hid hA
  have HK := Lib.hid hk
  have i1 : (K : Int).tmod 6 = ((k : Int) - 1) := by rw [Int.tmod_eq_emod_of_nonneg (Int.natCast_nonneg _)]; omega
  have i2 : (t0 : Int).tmod 64 = (t : Int) := by rw [Int.tmod_eq_emod_of_nonneg (Int.natCast_nonneg _)]; omega
  have i3 : (m0 : Int).tmod 33554432 = (tm : Int) := by rw [Int.tmod_eq_emod_of_nonneg (Int.natCast_nonneg _)]; omega
  have i4 : (d0 : Int).tmod 2 = (d : Int) := by rw [Int.tmod_eq_emod_of_nonneg (Int.natCast_nonneg _)]; omega
  have i5 : (a0 : Int).tmod 16384 = (a : Int) := by rw [Int.tmod_eq_emod_of_nonneg (Int.natCast_nonneg _)]; omega
  have e1 : IntKind.u8.wrap ((k : Int) - 1) = (k : Int) - 1 := by rw [IntKind.wrap_u8]; omega
  have e1' : IntKind.u8.wrap (1 + ((k : Int) - 1)) = (k : Int) := by rw [IntKind.wrap_u8]; omega
  have e2 : IntKind.u8.wrap (t : Int) = (t : Int) := by rw [IntKind.wrap_u8]; omega
  have e2' : IntKind.i64.wrap (t : Int) = (t : Int) := by rw [IntKind.wrap_i64]; omega
  have e3 : IntKind.u32.wrap (tm : Int) = (tm : Int) := by rw [IntKind.wrap_u32]; omega
  have e3' : IntKind.i64.wrap (tm : Int) = (tm : Int) := by rw [IntKind.wrap_i64]; omega
  have e4 : IntKind.u8.wrap (d : Int) = (d : Int) := by rw [IntKind.wrap_u8]; omega
  have e4' : IntKind.i64.wrap (d : Int) = (d : Int) := by rw [IntKind.wrap_i64]; omega
  have e5 : IntKind.u16.wrap (a : Int) = (a : Int) := by rw [IntKind.wrap_u16]; omega
  have e5' : IntKind.i64.wrap (a : Int) = (a : Int) := by rw [IntKind.wrap_i64]; omega
  have F0 := (((Fr.refl No w).alloc (.cells #[.int .u8 (K : Int), .int .u8 (t0 : Int), .int .u8 (d0 : Int), .int .u32 (m0 : Int), .int .u16 (a0 : Int), .bool wh, .slice A tl.length c] 29)).alloc (.cells #[.int .u8 0, .int .i64 0, .int .i64 0, .int .i64 0, .int .i64 0, .bool false, .slice none 0 0] 34)).alloc (.cells #[.int .u8 (k : Int), .int .i64 (t : Int), .int .i64 (tm : Int), .int .i64 0, .int .i64 0, .bool false, .slice none 0 0] 34)
  have B0 : (((w.alloc (.cells #[.int .u8 (K : Int), .int .u8 (t0 : Int), .int .u8 (d0 : Int), .int .u32 (m0 : Int), .int .u16 (a0 : Int), .bool wh, .slice A tl.length c] 29)).alloc (.cells #[.int .u8 0, .int .i64 0, .int .i64 0, .int .i64 0, .int .i64 0, .bool false, .slice none 0 0] 34)).alloc (.cells #[.int .u8 (k : Int), .int .i64 (t : Int), .int .i64 (tm : Int), .int .i64 0, .int .i64 0, .bool false, .slice none 0 0] 34)).heap[w.heap.size]? = some (.cells #[.int .u8 (K : Int), .int .u8 (t0 : Int), .int .u8 (d0 : Int), .int .u32 (m0 : Int), .int .u16 (a0 : Int), .bool wh, .slice A tl.length c] 29 (0, 0)) := blk_alloc (blk_alloc (blk_new _ _) _) _
  have B1 : (((w.alloc (.cells #[.int .u8 (K : Int), .int .u8 (t0 : Int), .int .u8 (d0 : Int), .int .u32 (m0 : Int), .int .u16 (a0 : Int), .bool wh, .slice A tl.length c] 29)).alloc (.cells #[.int .u8 0, .int .i64 0, .int .i64 0, .int .i64 0, .int .i64 0, .bool false, .slice none 0 0] 34)).alloc (.cells #[.int .u8 (k : Int), .int .i64 (t : Int), .int .i64 (tm : Int), .int .i64 0, .int .i64 0, .bool false, .slice none 0 0] 34)).heap[(w.alloc (.cells #[.int .u8 (K : Int), .int .u8 (t0 : Int), .int .u8 (d0 : Int), .int .u32 (m0 : Int), .int .u16 (a0 : Int), .bool wh, .slice A tl.length c] 29)).heap.size]? = some (.cells #[.int .u8 0, .int .i64 0, .int .i64 0, .int .i64 0, .int .i64 0, .bool false, .slice none 0 0] 34 (0, 0)) := blk_alloc (blk_new _ _) _
  have B2 : (((w.alloc (.cells #[.int .u8 (K : Int), .int .u8 (t0 : Int), .int .u8 (d0 : Int), .int .u32 (m0 : Int), .int .u16 (a0 : Int), .bool wh, .slice A tl.length c] 29)).alloc (.cells #[.int .u8 0, .int .i64 0, .int .i64 0, .int .i64 0, .int .i64 0, .bool false, .slice none 0 0] 34)).alloc (.cells #[.int .u8 (k : Int), .int .i64 (t : Int), .int .i64 (tm : Int), .int .i64 0, .int .i64 0, .bool false, .slice none 0 0] 34)).heap[((w.alloc (.cells #[.int .u8 (K : Int), .int .u8 (t0 : Int), .int .u8 (d0 : Int), .int .u32 (m0 : Int), .int .u16 (a0 : Int), .bool wh, .slice A tl.length c] 29)).alloc (.cells #[.int .u8 0, .int .i64 0, .int .i64 0, .int .i64 0, .int .i64 0, .bool false, .slice none 0 0] 34)).heap.size]? = some (.cells #[.int .u8 (k : Int), .int .i64 (t : Int), .int .i64 (tm : Int), .int .i64 0, .int .i64 0, .bool false, .slice none 0 0] 34 (0, 0)) := blk_new _ _
  obtain ⟨g, hg⟩ : ∃ g, w.heap.size = g := ⟨_, rfl⟩
  rw [hg] at B0
  rw [show (w.alloc (.cells #[.int .u8 (K : Int), .int .u8 (t0 : Int), .int .u8 (d0 : Int), .int .u32 (m0 : Int), .int .u16 (a0 : Int), .bool wh, .slice A tl.length c] 29)).heap.size = g + 1 by simp [hg]] at B1
  rw [show ((w.alloc (.cells #[.int .u8 (K : Int), .int .u8 (t0 : Int), .int .u8 (d0 : Int), .int .u32 (m0 : Int), .int .u16 (a0 : Int), .bool wh, .slice A tl.length c] 29)).alloc (.cells #[.int .u8 0, .int .i64 0, .int .i64 0, .int .i64 0, .int .i64 0, .bool false, .slice none 0 0] 34)).heap.size = g + 2 by simp [hg]] at B2
  have HBS := Lib.hid B0
  have HB2 := Lib.hid B1
  have HB3 := Lib.hid B2
  have HF := Lib.hid F0
  have hgw : Hid (w.heap.size ≤ g) := by show w.heap.size ≤ g; omega
  have hgw' := hgw.out
  clear hR B0 B1 B2 F0 hT hTM hD hA hk
  go_enter Try.func14, Try.ntmps14
  go_upto_if 20 with (fail)
  rw [show g + 1 + 1 = g + 2 from rfl]
  obtain ⟨wx, hwx⟩ : ∃ wx, ((w.alloc (.cells #[.int .u8 (K : Int), .int .u8 (t0 : Int), .int .u8 (d0 : Int), .int .u32 (m0 : Int), .int .u16 (a0 : Int), .bool wh, .slice A tl.length c] 29)).alloc (.cells #[.int .u8 0, .int .i64 0, .int .i64 0, .int .i64 0, .int .i64 0, .bool false, .slice none 0 0] 34)).alloc (.cells #[.int .u8 (k : Int), .int .i64 (t : Int), .int .i64 (tm : Int), .int .i64 0, .int .i64 0, .bool false, .slice none 0 0] 34) = wx := ⟨_, rfl⟩
  rw [hwx] at HBS HB2 HB3 HF ⊢
  clear hwx i1 i2 i3 e1 e1' e2 e2' e3 e3'
  by_cases hk3 : k = 3
  · subst hk3
    obtain ⟨q0, q1, q2, q3, q4, q5, q6, z0, z1, z2, z3, z4, z5, z6⟩ := seven HB3.out
    obtain ⟨s0, s1, s2, s3, s4, s5, s6, _⟩ := seven HBS.out
    clear q0 q1 q2 q6 z0 z1 z2 z6 s0 s1 s3 s6
    go_upto_region 3 with (fail)
    go_region_held3 (fun w' => w'.cell? ⟨g, 2, none⟩ = some (.int .u8 (d0 : Int)) ∧ w'.cell? ⟨g, 4, none⟩ = some (.int .u16 (a0 : Int)) ∧ w'.cell? ⟨g, 5, none⟩ = some (.bool wh))
      (go_keep)
      (fail)
    go_upto_region 4 with (fail)
    have fs : Fr (fun i => i = g + 2) wx ((((wx.setCell ⟨g + 2, 3, none⟩ (.int .i64 (d : Int))).setCell ⟨g + 2, 4, none⟩ (.int .i64 (a : Int))).setCell ⟨g + 2, 5, none⟩ (.bool wh))).drew := ((((Fr.refl (fun i => i = g + 2) wx).setCell (p := ⟨g + 2, 3, none⟩) (.inl rfl) (.int .i64 (d : Int))).setCell (p := ⟨g + 2, 4, none⟩) (.inl rfl) (.int .i64 (a : Int))).setCell (p := ⟨g + 2, 5, none⟩) (.inl rfl) (.bool wh)).drew
    replace HB3 := Lib.hid (show ((((wx.setCell ⟨g + 2, 3, none⟩ (.int .i64 (d : Int))).setCell ⟨g + 2, 4, none⟩ (.int .i64 (a : Int))).setCell ⟨g + 2, 5, none⟩ (.bool wh))).drew.heap[g + 2]? = some (Obj.cells #[.int .u8 3, .int .i64 (t : Int), .int .i64 (tm : Int), .int .i64 (d : Int), .int .i64 (a : Int), .bool wh, .slice none 0 0] 34 (0, 0)) from blk_set (blk_set (blk_set HB3.out 3 (.int .i64 (d : Int))) 4 (.int .i64 (a : Int))) 5 (.bool wh))
    replace HBS := Lib.hid (fs.heap HBS.out (fun e => by have e2 : g = g + 2 := e; omega))
    replace HB2 := Lib.hid (fs.heap HB2.out (fun e => by have e2 : g + 1 = g + 2 := e; omega))
    replace HF := Lib.hid (HF.out.trans fs (fun i hi => .inr (by rw [show i = g + 2 from hi]; omega)))
    clear fs q3 q4 q5 z3 z4 z5 s2 s4 s5 i4 i5 e4 e4' e5 e5'
    obtain ⟨wy, hwy⟩ : ∃ wy, ((((wx.setCell ⟨g + 2, 3, none⟩ (.int .i64 (d : Int))).setCell ⟨g + 2, 4, none⟩ (.int .i64 (a : Int))).setCell ⟨g + 2, 5, none⟩ (.bool wh))).drew = wy := ⟨_, rfl⟩
    rw [hwy] at HB3 HBS HB2 HF ⊢
    clear hwy
    go_wp2
    go_loopg [4] n (fun gk i wr => ∃ (j : Nat) (A' : Option Addr) (c' : Nat), j + gk = n ∧ i = .int .i64 (j : Int) ∧ Hid (wr.heap[g]? = some (.cells #[.int .u8 (K : Int), .int .u8 (t0 : Int), .int .u8 (d0 : Int), .int .u32 (m0 : Int), .int .u16 (a0 : Int), .bool wh, .slice A tl.length c] 29 (0, 0))) ∧ Hid (wr.heap[g + 1]? = some (.cells #[.int .u8 0, .int .i64 0, .int .i64 0, .int .i64 0, .int .i64 0, .bool false, .slice none 0 0] 34 (0, 0))) ∧ Hid (wr.heap[g + 2]? = some (.cells #[.int .u8 3, .int .i64 (t : Int), .int .i64 (tm : Int), .int .i64 (d : Int), .int .i64 (a : Int), .bool wh, .slice A' j c'] 34 (0, 0))) ∧ Hid (Own wr 3 (.slice A' j c') (ints .i64 (low6 (tl.take j)))) ∧ Hid (∀ k, (Value.slice A' j c').ownBlock = some k → g + 2 < k) ∧ Hid (Fr No w wr))
    case atStart => exact ⟨0, none, 0, by omega, rfl, HBS, HB2, HB3, (by show Own _ _ _ _; exact Own.nil _ _), (by show ∀ k, _; intro k e; simp [Value.ownBlock] at e), HF⟩
    case round =>
      clear HBS HB2 HB3 HF
      obtain ⟨j, A', c', hj, rfl, HBS, HB2, HB3, HO, NA, HF⟩ := hrel
      obtain ⟨q0, q1, q2, q3, q4, q5, q6, z0, z1, z2, z3, z4, z5, z6⟩ := seven HB3.out
      obtain ⟨s0, s1, s2, s3, s4, s5, s6, _⟩ := seven HBS.out
      clear q1 q2 q3 q4 q5 z0 z1 z2 z3 z4 z5 s0 s1 s2 s3 s4 s5
      by_cases hjn : j < n
      · have hjl : j < tl.length := by omega
        have hj15 : j < 15 := by omega
        obtain ⟨ad, rfl, cb⟩ := (HR.out.no HF.out).byte hjl
        obtain ⟨y, hy⟩ : ∃ y, (tl.getD j 0).toNat = y := ⟨_, rfl⟩
        have hy8 : y < 256 := by rw [← hy]; exact UInt8.toNat_lt _
        obtain ⟨z, hz⟩ : ∃ z, y % 64 = z := ⟨_, rfl⟩
        have i1 : (y : Int).tmod 64 = (z : Int) := by rw [Int.tmod_eq_emod_of_nonneg (Int.natCast_nonneg _)]; omega
        have i2 : IntKind.u8.wrap (z : Int) = (z : Int) := by rw [IntKind.wrap_u8]; omega
        have i3 : IntKind.i64.wrap (z : Int) = (z : Int) := by rw [IntKind.wrap_i64]; omega
        have i4 : (y : Int) % 64 = (z : Int) := by omega
        have hsucc : Hid (ints .i64 (low6 (tl.take (j + 1))) = ints .i64 (low6 (tl.take j)) ++ [.int .i64 (z : Int)]) := by
          show ints .i64 (low6 (tl.take (j + 1))) = _
          rw [low6_take tl j hjl, hy, hz, ints_append]; rfl
        have hlen : Hid ((ints .i64 (low6 (tl.take j))).length = j) := by
          show (ints .i64 (low6 (tl.take j))).length = j
          rw [ints_length, low6_length, List.length_take]; omega
        rw [hy] at cb
        have j1 : (j : Int) < (tl.length : Int) := by omega
        have j2 : (0 : Int) ≤ (j : Int) := by omega
        have q63 : (wr.alloc (.cells #[.int .i64 (z : Int)] 3)).cell? ⟨g + 2, 6, none⟩ = some (.slice A' j c') := ((Fr.refl No wr).alloc _).cell q6 (fun k => k)
        clear hy hz
        go_wp2
        go_region_law (refine step_own_append rfl (.tmp 56) (.tmp 64) 32 3 (.int .i64 0) 8 rfl Try.underlying32 infoInt rfl (by decide) _ (ints .i64 (low6 (tl.take j))) (.int .i64 (z : Int)) _ (by rfl) (by rfl) (by show (wr.alloc (.cells #[.int .i64 (z : Int)] 3)).cell? _ = _; rw [blk_cell (blk_new _ _)]; rfl) rfl (show Own (wr.alloc (.cells #[.int .i64 (z : Int)] 3)).drew _ _ _ from (HO.out.alloc _).fr ((Fr.refl No _).drew) (fun _ _ k => k)) (by rw [hlen.out]; omega) ?_
                       intro v4 w4 o4 f4 a4
                       obtain ⟨A4, c4, hv4, b2b, b4b, b5b, Fb, Nb⟩ := after_of (n := j + 1) (by rw [List.length_append, hlen.out]; rfl) NA.out HF.out HBS.out HB2.out HB3.out o4 f4 a4
                       subst hv4
                       have c6b := (seven b5b).2.2.2.2.2.2.1
                       have z6b := (seven b5b).2.2.2.2.2.2.2.2.2.2.2.2.2)
        all_goals
          have fs : Fr (fun i => i = g + 2) w4 (w4.setCell ⟨g + 2, 6, none⟩ (.slice A4 (j + 1) c4)) := (Fr.refl (fun i => i = g + 2) w4).setCell (p := ⟨g + 2, 6, none⟩) (.inl rfl) (.slice A4 (j + 1) c4)
          have k5 : (w4.setCell ⟨g + 2, 6, none⟩ (.slice A4 (j + 1) c4)).heap[g + 2]? = some (Obj.cells #[.int .u8 3, .int .i64 (t : Int), .int .i64 (tm : Int), .int .i64 (d : Int), .int .i64 (a : Int), .bool wh, .slice A4 (j + 1) c4] 34 (0, 0)) := blk_set b5b 6 (.slice A4 (j + 1) c4)
          have k2 := fs.heap b2b (fun e => by have e2 : g = g + 2 := e; omega)
          have k4 := fs.heap b4b (fun e => by have e2 : g + 1 = g + 2 := e; omega)
          have kO := o4.fr fs (fun k hk e => by have := Nb k hk; have e2 : k = g + 2 := e; omega)
          have kF := Fb.trans fs (fun i hi => .inr (by rw [show i = g + 2 from hi]; have := hgw.out; omega))
          rw [← hsucc.out] at kO
          have K2 := Lib.hid k2
          have K4 := Lib.hid k4
          have K5 := Lib.hid k5
          have KO := Lib.hid kO
          have KF := Lib.hid kF
          have KN := Lib.hid Nb
          clear k2 k4 k5 kO kF fs Nb o4 f4 a4 b2b b4b b5b Fb
          go_wp2
          go_roundg (n - (j + 1))
          case measure => omega
          case rel => exact ⟨j + 1, A4, c4, by omega, by go_num, K2, K4, K5, KO, KN, KF⟩
      · obtain rfl : j = n := by omega
        have RT := HO.out.rd.1
        have hAb : ∀ ad, A' = some ad → ad.block ≠ g + 1 := by
          intro ad e
          obtain ⟨A5, c5, h5, _, h6, _⟩ := HO.out.shape
          injection h5 with e5
          have := NA.out _ (h6 ad (by rw [← e5]; exact e))
          omega
        have hAn : ∀ ad, A' = some ad → g ≤ ad.block := by
          intro ad e
          obtain ⟨A5, c5, h5, _, h6, _⟩ := HO.out.shape
          injection h5 with e5
          have := NA.out _ (h6 ad (by rw [← e5]; exact e))
          omega
        have HAN := Lib.hid (And.intro hAn HO.out.rd.2.2)
        have HRT := Lib.hid RT
        have HAB := Lib.hid hAb
        have hM : Hid (ofM K t0 d0 m0 a0 wh tl = ⟨3, t, tm, d, a, wh, low6 (tl.take j)⟩) := by
          show ofM K t0 d0 m0 a0 wh tl = _
          unfold ofM
          rw [hn0.out, HK.out]
          simp [HT.out, HTM.out, HD.out, HA.out]
        have hlt : Hid ((low6 (tl.take j)).length = j) := by show (low6 (tl.take j)).length = j; rw [low6_length, List.length_take]; omega
        have hx : ¬ ((j : Int) < (tl.length : Int) ∧ (j : Int) < 15) := by omega
        clear RT hAb hAn
        by_cases hjl : j < tl.length
        · have hj15 : ¬ (j : Int) < 15 := by omega
          have hjl2 : (j : Int) < (tl.length : Int) := by omega
          clear hx hjl
          go_upto_region 8 with (fail)
          all_goals
            go_wp2_with (first | (refine wpList_load_row rfl 34 (.tmp 3) rfl (g + 2) rfl 34 _ (0, 0) _ HB3.out Try.underlying34 rfl (by kernel_rfl) ?_) | (refine wpList_store_row rfl 34 (.tmp 2) (.tmp 67) rfl (g + 1) _ rfl rfl 34 _ HB2.out (by kernel_rfl) rfl (by simp [Value.oneCell']) ?_))
            refine bodyPost_ret (results_cell1 rfl _ _ _ (g + 1) _ rfl (run_loadVar_row _ (g + 1) _ _ _ _ _ (setRow_heap _ (g + 1) _ _ _ _ HB2.out) Try.underlying34 rfl (by kernel_rfl))) rfl ?_
            first | exact ⟨A', c', by rw [hM.out]; simp only [mval, hlt.out]; rfl, by rw [hM.out]; exact HRT.out.row HAB.out _, HF.out.row (.inr (Nat.le_succ_of_le hgw.out)), HAN⟩ | exact ⟨A', ⟨c', by rw [hM.out]; simp only [mval, hlt.out]; rfl⟩, by rw [hM.out]; exact HRT.out.row HAB.out _, HF.out.row (.inr (Nat.le_succ_of_le hgw.out)), HAN⟩
        · have hjl2 : ¬ (j : Int) < (tl.length : Int) := by omega
          clear hx hjl
          go_upto_region 8 with (fail)
          all_goals
            go_wp2_with (first | (refine wpList_load_row rfl 34 (.tmp 3) rfl (g + 2) rfl 34 _ (0, 0) _ HB3.out Try.underlying34 rfl (by kernel_rfl) ?_) | (refine wpList_store_row rfl 34 (.tmp 2) (.tmp 67) rfl (g + 1) _ rfl rfl 34 _ HB2.out (by kernel_rfl) rfl (by simp [Value.oneCell']) ?_))
            refine bodyPost_ret (results_cell1 rfl _ _ _ (g + 1) _ rfl (run_loadVar_row _ (g + 1) _ _ _ _ _ (setRow_heap _ (g + 1) _ _ _ _ HB2.out) Try.underlying34 rfl (by kernel_rfl))) rfl ?_
            first | exact ⟨A', c', by rw [hM.out]; simp only [mval, hlt.out]; rfl, by rw [hM.out]; exact HRT.out.row HAB.out _, HF.out.row (.inr (Nat.le_succ_of_le hgw.out)), HAN⟩ | exact ⟨A', ⟨c', by rw [hM.out]; simp only [mval, hlt.out]; rfl⟩, by rw [hM.out]; exact HRT.out.row HAB.out _, HF.out.row (.inr (Nat.le_succ_of_le hgw.out)), HAN⟩

  by_cases hk6 : k = 6
  · subst hk6
    clear i4 i5 e4 e4' e5 e5'
    go_upto_region 4 with (fail)
    go_wp2
    go_loopg [4] n (fun gk i wr => ∃ (j : Nat) (A' : Option Addr) (c' : Nat), j + gk = n ∧ i = .int .i64 (j : Int) ∧ Hid (wr.heap[g]? = some (.cells #[.int .u8 (K : Int), .int .u8 (t0 : Int), .int .u8 (d0 : Int), .int .u32 (m0 : Int), .int .u16 (a0 : Int), .bool wh, .slice A tl.length c] 29 (0, 0))) ∧ Hid (wr.heap[g + 1]? = some (.cells #[.int .u8 0, .int .i64 0, .int .i64 0, .int .i64 0, .int .i64 0, .bool false, .slice none 0 0] 34 (0, 0))) ∧ Hid (wr.heap[g + 2]? = some (.cells #[.int .u8 6, .int .i64 (t : Int), .int .i64 (tm : Int), .int .i64 0, .int .i64 0, .bool false, .slice A' j c'] 34 (0, 0))) ∧ Hid (Own wr 3 (.slice A' j c') (ints .i64 (low6 (tl.take j)))) ∧ Hid (∀ k, (Value.slice A' j c').ownBlock = some k → g + 2 < k) ∧ Hid (Fr No w wr))
    case atStart => exact ⟨0, none, 0, by omega, rfl, HBS, HB2, HB3, (by show Own _ _ _ _; exact Own.nil _ _), (by show ∀ k, _; intro k e; simp [Value.ownBlock] at e), HF⟩
    case round =>
      clear HBS HB2 HB3 HF
      obtain ⟨j, A', c', hj, rfl, HBS, HB2, HB3, HO, NA, HF⟩ := hrel
      obtain ⟨q0, q1, q2, q3, q4, q5, q6, z0, z1, z2, z3, z4, z5, z6⟩ := seven HB3.out
      obtain ⟨s0, s1, s2, s3, s4, s5, s6, _⟩ := seven HBS.out
      clear q1 q2 q3 q4 q5 z0 z1 z2 z3 z4 z5 s0 s1 s2 s3 s4 s5
      by_cases hjn : j < n
      · have hjl : j < tl.length := by omega
        have hj15 : j < 15 := by omega
        obtain ⟨ad, rfl, cb⟩ := (HR.out.no HF.out).byte hjl
        obtain ⟨y, hy⟩ : ∃ y, (tl.getD j 0).toNat = y := ⟨_, rfl⟩
        have hy8 : y < 256 := by rw [← hy]; exact UInt8.toNat_lt _
        obtain ⟨z, hz⟩ : ∃ z, y % 64 = z := ⟨_, rfl⟩
        have i1 : (y : Int).tmod 64 = (z : Int) := by rw [Int.tmod_eq_emod_of_nonneg (Int.natCast_nonneg _)]; omega
        have i2 : IntKind.u8.wrap (z : Int) = (z : Int) := by rw [IntKind.wrap_u8]; omega
        have i3 : IntKind.i64.wrap (z : Int) = (z : Int) := by rw [IntKind.wrap_i64]; omega
        have i4 : (y : Int) % 64 = (z : Int) := by omega
        have hsucc : Hid (ints .i64 (low6 (tl.take (j + 1))) = ints .i64 (low6 (tl.take j)) ++ [.int .i64 (z : Int)]) := by
          show ints .i64 (low6 (tl.take (j + 1))) = _
          rw [low6_take tl j hjl, hy, hz, ints_append]; rfl
        have hlen : Hid ((ints .i64 (low6 (tl.take j))).length = j) := by
          show (ints .i64 (low6 (tl.take j))).length = j
          rw [ints_length, low6_length, List.length_take]; omega
        rw [hy] at cb
        have j1 : (j : Int) < (tl.length : Int) := by omega
        have j2 : (0 : Int) ≤ (j : Int) := by omega
        have q63 : (wr.alloc (.cells #[.int .i64 (z : Int)] 3)).cell? ⟨g + 2, 6, none⟩ = some (.slice A' j c') := ((Fr.refl No wr).alloc _).cell q6 (fun k => k)
        clear hy hz
        go_wp2
        go_region_law (refine step_own_append rfl (.tmp 56) (.tmp 64) 32 3 (.int .i64 0) 8 rfl Try.underlying32 infoInt rfl (by decide) _ (ints .i64 (low6 (tl.take j))) (.int .i64 (z : Int)) _ (by rfl) (by rfl) (by show (wr.alloc (.cells #[.int .i64 (z : Int)] 3)).cell? _ = _; rw [blk_cell (blk_new _ _)]; rfl) rfl (show Own (wr.alloc (.cells #[.int .i64 (z : Int)] 3)).drew _ _ _ from (HO.out.alloc _).fr ((Fr.refl No _).drew) (fun _ _ k => k)) (by rw [hlen.out]; omega) ?_
                       intro v4 w4 o4 f4 a4
                       obtain ⟨A4, c4, hv4, b2b, b4b, b5b, Fb, Nb⟩ := after_of (n := j + 1) (by rw [List.length_append, hlen.out]; rfl) NA.out HF.out HBS.out HB2.out HB3.out o4 f4 a4
                       subst hv4
                       have c6b := (seven b5b).2.2.2.2.2.2.1
                       have z6b := (seven b5b).2.2.2.2.2.2.2.2.2.2.2.2.2)
        all_goals
          have fs : Fr (fun i => i = g + 2) w4 (w4.setCell ⟨g + 2, 6, none⟩ (.slice A4 (j + 1) c4)) := (Fr.refl (fun i => i = g + 2) w4).setCell (p := ⟨g + 2, 6, none⟩) (.inl rfl) (.slice A4 (j + 1) c4)
          have k5 : (w4.setCell ⟨g + 2, 6, none⟩ (.slice A4 (j + 1) c4)).heap[g + 2]? = some (Obj.cells #[.int .u8 6, .int .i64 (t : Int), .int .i64 (tm : Int), .int .i64 0, .int .i64 0, .bool false, .slice A4 (j + 1) c4] 34 (0, 0)) := blk_set b5b 6 (.slice A4 (j + 1) c4)
          have k2 := fs.heap b2b (fun e => by have e2 : g = g + 2 := e; omega)
          have k4 := fs.heap b4b (fun e => by have e2 : g + 1 = g + 2 := e; omega)
          have kO := o4.fr fs (fun k hk e => by have := Nb k hk; have e2 : k = g + 2 := e; omega)
          have kF := Fb.trans fs (fun i hi => .inr (by rw [show i = g + 2 from hi]; have := hgw.out; omega))
          rw [← hsucc.out] at kO
          have K2 := Lib.hid k2
          have K4 := Lib.hid k4
          have K5 := Lib.hid k5
          have KO := Lib.hid kO
          have KF := Lib.hid kF
          have KN := Lib.hid Nb
          clear k2 k4 k5 kO kF fs Nb o4 f4 a4 b2b b4b b5b Fb
          go_wp2
          go_roundg (n - (j + 1))
          case measure => omega
          case rel => exact ⟨j + 1, A4, c4, by omega, by go_num, K2, K4, K5, KO, KN, KF⟩
      · obtain rfl : j = n := by omega
        have RT := HO.out.rd.1
        have hAb : ∀ ad, A' = some ad → ad.block ≠ g + 1 := by
          intro ad e
          obtain ⟨A5, c5, h5, _, h6, _⟩ := HO.out.shape
          injection h5 with e5
          have := NA.out _ (h6 ad (by rw [← e5]; exact e))
          omega
        have hAn : ∀ ad, A' = some ad → g ≤ ad.block := by
          intro ad e
          obtain ⟨A5, c5, h5, _, h6, _⟩ := HO.out.shape
          injection h5 with e5
          have := NA.out _ (h6 ad (by rw [← e5]; exact e))
          omega
        have HAN := Lib.hid (And.intro hAn HO.out.rd.2.2)
        have HRT := Lib.hid RT
        have HAB := Lib.hid hAb
        have hM : Hid (ofM K t0 d0 m0 a0 wh tl = ⟨6, t, tm, 0, 0, false, low6 (tl.take j)⟩) := by
          show ofM K t0 d0 m0 a0 wh tl = _
          unfold ofM
          rw [hn0.out, HK.out]
          simp [HT.out, HTM.out]
        have hlt : Hid ((low6 (tl.take j)).length = j) := by show (low6 (tl.take j)).length = j; rw [low6_length, List.length_take]; omega
        have hx : ¬ ((j : Int) < (tl.length : Int) ∧ (j : Int) < 15) := by omega
        clear RT hAb hAn
        by_cases hjl : j < tl.length
        · have hj15 : ¬ (j : Int) < 15 := by omega
          have hjl2 : (j : Int) < (tl.length : Int) := by omega
          clear hx hjl
          go_upto_region 8 with (fail)
          all_goals
            go_wp2_with (first | (refine wpList_load_row rfl 34 (.tmp 3) rfl (g + 2) rfl 34 _ (0, 0) _ HB3.out Try.underlying34 rfl (by kernel_rfl) ?_) | (refine wpList_store_row rfl 34 (.tmp 2) (.tmp 67) rfl (g + 1) _ rfl rfl 34 _ HB2.out (by kernel_rfl) rfl (by simp [Value.oneCell']) ?_))
            refine bodyPost_ret (results_cell1 rfl _ _ _ (g + 1) _ rfl (run_loadVar_row _ (g + 1) _ _ _ _ _ (setRow_heap _ (g + 1) _ _ _ _ HB2.out) Try.underlying34 rfl (by kernel_rfl))) rfl ?_
            first | exact ⟨A', c', by rw [hM.out]; simp only [mval, hlt.out]; rfl, by rw [hM.out]; exact HRT.out.row HAB.out _, HF.out.row (.inr (Nat.le_succ_of_le hgw.out)), HAN⟩ | exact ⟨A', ⟨c', by rw [hM.out]; simp only [mval, hlt.out]; rfl⟩, by rw [hM.out]; exact HRT.out.row HAB.out _, HF.out.row (.inr (Nat.le_succ_of_le hgw.out)), HAN⟩
        · have hjl2 : ¬ (j : Int) < (tl.length : Int) := by omega
          clear hx hjl
          go_upto_region 8 with (fail)
          all_goals
            go_wp2_with (first | (refine wpList_load_row rfl 34 (.tmp 3) rfl (g + 2) rfl 34 _ (0, 0) _ HB3.out Try.underlying34 rfl (by kernel_rfl) ?_) | (refine wpList_store_row rfl 34 (.tmp 2) (.tmp 67) rfl (g + 1) _ rfl rfl 34 _ HB2.out (by kernel_rfl) rfl (by simp [Value.oneCell']) ?_))
            refine bodyPost_ret (results_cell1 rfl _ _ _ (g + 1) _ rfl (run_loadVar_row _ (g + 1) _ _ _ _ _ (setRow_heap _ (g + 1) _ _ _ _ HB2.out) Try.underlying34 rfl (by kernel_rfl))) rfl ?_
            first | exact ⟨A', c', by rw [hM.out]; simp only [mval, hlt.out]; rfl, by rw [hM.out]; exact HRT.out.row HAB.out _, HF.out.row (.inr (Nat.le_succ_of_le hgw.out)), HAN⟩ | exact ⟨A', ⟨c', by rw [hM.out]; simp only [mval, hlt.out]; rfl⟩, by rw [hM.out]; exact HRT.out.row HAB.out _, HF.out.row (.inr (Nat.le_succ_of_le hgw.out)), HAN⟩

  have hk3i : ¬ (k : Int) = 3 := by omega
  have hk6i : ¬ (k : Int) = 6 := by omega
  have hM : Hid (ofM K t0 d0 m0 a0 wh tl = ⟨k, t, tm, 0, 0, false, []⟩) := by
    show ofM K t0 d0 m0 a0 wh tl = _
    unfold ofM
    rw [HK.out]
    simp [HT.out, HTM.out, hk3, hk6]
  clear i4 i5 e4 e4' e5 e5'
  go_upto_region 4 with (fail)
  go_wp2
  go_loopg [4] 0 (fun gk i wr => gk = 0 ∧ i = .int .i64 0 ∧ wr = wx)
  case atStart => exact ⟨rfl, rfl, rfl⟩
  case round =>
    obtain ⟨rfl, rfl, rfl⟩ := hrel
    obtain ⟨q0, q1, q2, q3, q4, q5, q6, z0, z1, z2, z3, z4, z5, z6⟩ := seven HB3.out
    obtain ⟨s0, s1, s2, s3, s4, s5, s6, _⟩ := seven HBS.out
    clear q1 q2 q3 q4 q5 q6 z0 z1 z2 z3 z4 z5 z6 s0 s1 s2 s3 s4 s5
    by_cases hjl : 0 < tl.length
    · go_upto_region 8 with (fail)
      all_goals
        go_wp2_with (first | (refine wpList_load_row rfl 34 (.tmp 3) rfl (g + 2) rfl 34 _ (0, 0) _ HB3.out Try.underlying34 rfl (by kernel_rfl) ?_) | (refine wpList_store_row rfl 34 (.tmp 2) (.tmp 67) rfl (g + 1) _ rfl rfl 34 _ HB2.out (by kernel_rfl) rfl (by simp [Value.oneCell']) ?_))
        refine bodyPost_ret (results_cell1 rfl _ _ _ (g + 1) _ rfl (run_loadVar_row _ (g + 1) _ _ _ _ _ (setRow_heap _ (g + 1) _ _ _ _ HB2.out) Try.underlying34 rfl (by kernel_rfl))) rfl ?_
        first | exact ⟨none, 0, by rw [hM.out]; rfl, by rw [hM.out]; exact Rd.nil _ _, HF.out.row (.inr (Nat.le_succ_of_le hgw.out)), Lib.hid ⟨fun _ e => (by cases e), fun _ => rfl⟩⟩ | exact ⟨none, ⟨0, by rw [hM.out]; rfl⟩, by rw [hM.out]; exact Rd.nil _ _, HF.out.row (.inr (Nat.le_succ_of_le hgw.out)), Lib.hid ⟨fun _ e => (by cases e), fun _ => rfl⟩⟩
    · have hl0 : tl.length = 0 := Nat.eq_zero_of_not_pos hjl
      go_upto_region 8 with (fail)
      all_goals
        go_wp2_with (first | (refine wpList_load_row rfl 34 (.tmp 3) rfl (g + 2) rfl 34 _ (0, 0) _ HB3.out Try.underlying34 rfl (by kernel_rfl) ?_) | (refine wpList_store_row rfl 34 (.tmp 2) (.tmp 67) rfl (g + 1) _ rfl rfl 34 _ HB2.out (by kernel_rfl) rfl (by simp [Value.oneCell']) ?_))
        refine bodyPost_ret (results_cell1 rfl _ _ _ (g + 1) _ rfl (run_loadVar_row _ (g + 1) _ _ _ _ _ (setRow_heap _ (g + 1) _ _ _ _ HB2.out) Try.underlying34 rfl (by kernel_rfl))) rfl ?_
        first | exact ⟨none, 0, by rw [hM.out]; rfl, by rw [hM.out]; exact Rd.nil _ _, HF.out.row (.inr (Nat.le_succ_of_le hgw.out)), Lib.hid ⟨fun _ e => (by cases e), fun _ => rfl⟩⟩ | exact ⟨none, ⟨0, by rw [hM.out]; rfl⟩, by rw [hM.out]; exact Rd.nil _ _, HF.out.row (.inr (Nat.le_succ_of_le hgw.out)), Lib.hid ⟨fun _ e => (by cases e), fun _ => rfl⟩⟩
theorem of_any {A : Option Addr} {c : Nat} {K t0 d0 m0 a0 : Nat} {wh : Bool} {tl : List UInt8} {w : World} (hR : Rd w A (bys tl)) :
    Calls Try.prog 14 #[.agg #[.int .u8 (K : Int), .int .u8 (t0 : Int), .int .u8 (d0 : Int), .int .u32 (m0 : Int), .int .u16 (a0 : Int), .bool wh, .slice A tl.length c]] w fun e w' => ∃ A' c', e = .returned (mval (ofM K t0 d0 m0 a0 wh tl) A' c') ∧ Rd w' A' (ints .i64 (ofM K t0 d0 m0 a0 wh tl).tr) ∧ Fr No w w' :=
  (of_new hR).mono fun _ _ ⟨A', c', h1, h2, h3, _⟩ => ⟨A', c', h1, h2, h3⟩
end Go.Proofs.Ytngjfebndhmlmaa
