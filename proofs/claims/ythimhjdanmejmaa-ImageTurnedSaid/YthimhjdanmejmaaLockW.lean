import Derived.Test.YthimhjdanmejmaaBothW
import Derived.Test.YthimhjdanmejmaaEncW
import Derived.Test.YthimhjdanmejmaaOpenW
import Derived.Test.YthimhjdanmejmaaJoin
import Derived.Test.YthimhjdanmejmaaCells
import Derived.Deep.RegionLaw
import Derived.Deep.DeepCutAuto
namespace Go.Proofs.Ythimhjdanmejmaa
open Go.RowKit Go

/-- n bytes of width m from s on. -/
def manyB (l : List UInt8) (s : Pl) (m : Nat) : Nat → List UInt8
  | 0 => []
  | n + 1 => manyB l s m n ++ [UInt8.ofNat (gt l (manyS l s m n) m)]
theorem manyB_length (l : List UInt8) (s : Pl) (m : Nat) : ∀ n, (manyB l s m n).length = n
  | 0 => rfl
  | n + 1 => by simp [manyB, manyB_length l s m n]

/-- A lock's fields. -/
structure Lk where
  r : Nat
  t : Nat
  e : Int
  p : List UInt8
def lkE (l : List UInt8) (s : Pl) : Int := if gt l (nx l (nx l s 8) 8) 1 = 1 then 0 else -1
def lkP (l : List UInt8) (s : Pl) : List UInt8 := manyB l (nx l (nx l (nx l (nx l s 8) 8) 1) 4) 2 (gt l (nx l (nx l (nx l s 8) 8) 1) 4)
def lk (l : List UInt8) (s : Pl) : Lk := ⟨gt l s 8, gt l (nx l s 8) 8, lkE l s, lkP l s⟩
def lkN (l : List UInt8) (s : Pl) : Pl := manyS l (nx l (nx l (nx l (nx l s 8) 8) 1) 4) 2 (gt l (nx l (nx l (nx l s 8) 8) 1) 4)
def lval (x : Lk) (A : Option Addr) (c : Nat) : Value := .agg #[.int .i64 (x.r : Int), .int .i64 (x.t : Int), .int .i64 x.e, .slice A x.p.length c]
/-- The k-th place, and the locks up to it. -/
def lkS (l : List UInt8) (s : Pl) : Nat → Pl
  | 0 => s
  | k + 1 => lkN l (lkS l s k)
def lkL (l : List UInt8) (s : Pl) : Nat → List Lk
  | 0 => []
  | k + 1 => lkL l s k ++ [lk l (lkS l s k)]
theorem lkL_length (l : List UInt8) (s : Pl) : ∀ k, (lkL l s k).length = k
  | 0 => rfl
  | k + 1 => by simp [lkL, lkL_length l s k]

theorem after_lock {w wa w4 : World} {g h2 r : Nat} {v v4 : Value} {C2 C5 Y : Obj} {B : Option Addr} {d : Nat} {l : List UInt8} {s : Pl} {e : TypeId} {xs : List Value} {n : Nat} (hn : xs.length = n) (NA : ∀ k, v.ownBlock = some k → h2 < k) (hgh : g < h2) (hgw : w.heap.size ≤ g) (hrl : r < w.heap.size)
    (hBl : ∀ ad, B = some ad → ad.block < w.heap.size) (IA : RdAt wa r B d l s) (Fa : Fr (RS r) w wa) (b2 : wa.heap[g]? = some C2) (b5 : wa.heap[h2]? = some C5) (o4 : Own w4 e v4 xs) (f4 : Fr (fun k => v.ownBlock = some k) (wa.alloc Y) w4)
    (a4 : v4.ownBlock = v.ownBlock ∨ ∃ b, v4.ownBlock = some b ∧ (wa.alloc Y).heap.size ≤ b) :
    ∃ A4 c4, v4 = .slice A4 n c4 ∧ w4.heap[g]? = some C2 ∧ w4.heap[h2]? = some C5 ∧ RdAt w4 r B d l s ∧ Fr (RS r) w w4 ∧ (∀ k, v4.ownBlock = some k → h2 < k) := by
  obtain ⟨A4, c4, hv4, _, _, _⟩ := o4.shape
  rw [hn] at hv4
  have f5 : Fr (fun k => v.ownBlock = some k) wa w4 := ((Fr.refl No wa).alloc Y).no.trans f4 (fun i hi => .inl hi)
  refine ⟨A4, c4, hv4, f5.heap b2 (fun e => by have := NA _ e; omega), f5.heap b5 (fun e => by have := NA _ e; omega), IA.fr f5 (fun e => by have := NA _ e; omega) (fun ad e e2 => by have := NA _ e2; have := hBl ad e; omega), Fa.trans f5 (fun i hi => .inr (by have := NA _ hi; omega)), ?_⟩
  intro k hk
  rcases a4 with e | ⟨b, e, hb⟩
  · rw [e] at hk; exact NA k hk
  · rw [e] at hk; cases hk
    have h1 : wa.heap.size ≤ (wa.alloc Y).heap.size := by simp
    have h2 := blk_lt b5
    omega

set_option maxRecDepth 20000 in
set_option maxHeartbeats 4000000 in
theorem lock_any {w : World} {r : Nat} {B : Option Addr} {d : Nat} {l : List UInt8} {s : Pl} (h : RdAt w r B d l s) :
    Calls Try.prog 22 #[.pointer (some ⟨r, 0, none⟩)] w fun e w' => ∃ A c, e = .returned (lval (lk l s) A c) ∧ Rd w' A (bys (lk l s).p) ∧ (∀ ad, A = some ad → w.heap.size ≤ ad.block ∧ ad.block < w'.heap.size) ∧ RdAt w' r B d l (lkN l s) ∧ Fr (RS r) w w' := by
  have hrl : Hid (r < w.heap.size) := blk_lt h.blk
  have hBl : Hid (∀ ad, B = some ad → ad.block < w.heap.size) := h.lt
  have F0 := (Fr.refl No w).alloc (.cells #[.int .i64 0, .int .i64 0, .int .i64 0, .slice none 0 0] 42)
  have R0 := h.fr F0 (fun k => k) (fun _ _ k => k)
  have B0 : (w.alloc (.cells #[.int .i64 0, .int .i64 0, .int .i64 0, .slice none 0 0] 42)).heap[w.heap.size]? = some (.cells #[.int .i64 0, .int .i64 0, .int .i64 0, .slice none 0 0] 42 (0, 0)) := blk_new _ _
  obtain ⟨g, hg⟩ : ∃ g, w.heap.size = g := ⟨_, rfl⟩
  rw [hg] at B0
  have hgr : Hid (¬ RS r g) := by show ¬ RS r g; intro e; have e2 : g = r := e; have := hrl.out; omega
  have hgw : Hid (w.heap.size ≤ g) := by show w.heap.size ≤ g; omega
  have HB := Lib.hid B0
  have HF := Lib.hid (F0.no (S := RS r))
  have HG := Lib.hid (get_at R0 8 8 rfl)
  have alt := gt_lt l s 8
  have blt := gt_lt l (nx l s 8) 8
  obtain ⟨x, hx⟩ : ∃ x, lk l s = x := ⟨_, rfl⟩
  obtain ⟨sN, hsN⟩ : ∃ sN, lkN l s = sN := ⟨_, rfl⟩
  rw [hx, hsN]
  unfold lk lkE lkP at hx
  unfold lkN at hsN
  obtain ⟨a, ha⟩ : ∃ a, gt l s 8 = a := ⟨_, rfl⟩
  obtain ⟨b, hb⟩ : ∃ b, gt l (nx l s 8) 8 = b := ⟨_, rfl⟩
  rw [ha] at HG alt hx
  rw [hb] at blt hx
  obtain ⟨s1, hs1⟩ : ∃ s1, nx l s 8 = s1 := ⟨_, rfl⟩
  rw [hs1] at HG hb hx hsN
  obtain ⟨s2, hs2⟩ : ∃ s2, nx l s1 8 = s2 := ⟨_, rfl⟩
  rw [hs2] at hx hsN
  obtain ⟨n, hn⟩ : ∃ n, gt l (nx l s2 1) 4 = n := ⟨_, rfl⟩
  have nlt := gt_lt l (nx l s2 1) 4
  rw [hn] at hx hsN nlt
  have HX := Lib.hid hx
  have HSN := Lib.hid hsN
  have HB2 := Lib.hid hb
  have HS2 := Lib.hid hs2
  have HN := Lib.hid hn
  have i1 : IntKind.i64.wrap (a : Int) = (a : Int) := by rw [IntKind.wrap_i64]; omega
  have i2 : IntKind.i64.wrap (b : Int) = (b : Int) := by rw [IntKind.wrap_i64]; omega
  clear h R0 B0 F0 hx hsN ha hb hs1 hs2 hn
  go_enter Try.func22, Try.ntmps22
  go_wp2_with fail
  refine HG.out.mono ?_
  rintro e w1 ⟨rfl, R1, F1⟩
  replace HB := Lib.hid (F1.heap HB.out hgr.out)
  replace HF := Lib.hid (HF.out.trans F1 (fun i hi => .inl hi))
  have HG2 := Lib.hid (get_at R1 8 8 rfl)
  rw [HB2.out, HS2.out] at HG2
  clear R1 F1 HG
  go_wp2_with fail
  refine HG2.out.mono ?_
  rintro e w2 ⟨rfl, R2, F2⟩
  replace HB := Lib.hid (F2.heap HB.out hgr.out)
  replace HF := Lib.hid (HF.out.trans F2 (fun i hi => .inl hi))
  have FA := (Fr.refl No w2).alloc (.cells #[.int .i64 (a : Int), .int .i64 (b : Int), .int .i64 (-1), .slice none 0 0] 42)
  have Bx : (w2.alloc (.cells #[.int .i64 (a : Int), .int .i64 (b : Int), .int .i64 (-1), .slice none 0 0] 42)).heap[w2.heap.size]? = some (.cells #[.int .i64 (a : Int), .int .i64 (b : Int), .int .i64 (-1), .slice none 0 0] 42 (0, 0)) := blk_new _ _
  obtain ⟨h2, hh2⟩ : ∃ h2, w2.heap.size = h2 := ⟨_, rfl⟩
  rw [hh2] at Bx
  have hgh : g < h2 := by have := blk_lt HB.out; omega
  have HBx := Lib.hid Bx
  replace HB := Lib.hid (FA.heap HB.out (fun k => k))
  replace HF := Lib.hid (HF.out.trans FA (fun _ k => k.elim))
  have HFL := Lib.hid (flag_at (R2.fr FA (fun k => k) (fun _ _ k => k)))
  have hhr : Hid (¬ RS r h2) := by show ¬ RS r h2; intro e; have e2 : h2 = r := e; have := hrl.out; omega
  have hgh2 := Lib.hid hgh
  clear R2 F2 FA Bx HG2
  go_wp2_with fail
  refine HFL.out.mono ?_
  rintro e w3 ⟨rfl, R3, F3⟩
  replace HB := Lib.hid (F3.heap HB.out hgr.out)
  replace HBx := Lib.hid (F3.heap HBx.out hhr.out)
  replace HF := Lib.hid (HF.out.trans F3 (fun i hi => .inl hi))
  have HR3 := Lib.hid R3
  obtain ⟨q, hq⟩ : ∃ q, decide (gt l s2 1 = 1) = q := ⟨_, rfl⟩
  have hE : Hid ((if gt l s2 1 = 1 then (0 : Int) else -1) = if q = true then 0 else -1) := by
    show (if gt l s2 1 = 1 then (0 : Int) else -1) = if q = true then 0 else -1
    rw [← hq]; by_cases h1 : gt l s2 1 = 1 <;> simp [h1]
  rw [hq]
  clear R3 F3 HFL hq
  obtain ⟨E, hEE⟩ : ∃ E : Int, (if q = true then 0 else -1) = E := ⟨_, rfl⟩
  have HEE := Lib.hid hEE
  go_upto_if 12 with (fail)
  go_cut [3] (fun p wc => p = .pointer (some ⟨h2, 0, none⟩) ∧ Hid (wc.heap[g]? = some (.cells #[.int .i64 0, .int .i64 0, .int .i64 0, .slice none 0 0] 42 (0, 0))) ∧ Hid (wc.heap[h2]? = some (.cells #[.int .i64 (a : Int), .int .i64 (b : Int), .int .i64 E, .slice none 0 0] 42 (0, 0))) ∧ Hid (RdAt wc r B d l (nx l s2 1)) ∧ Hid (Fr (RS r) w wc))
  case first =>
    cases q
    · have hE1 : (-1 : Int) = E := by simpa using hEE
      subst hE1
      go_wp2
      go_meet
      case rel => exact ⟨rfl, HB, HBx, HR3, HF⟩
    · have hE1 : (0 : Int) = E := by simpa using hEE
      subst hE1
      obtain ⟨_, _, p2, _, _, _, z2, _⟩ := four HBx.out
      have fs : Fr (fun i => i = h2) w3 (w3.setCell ⟨h2, 2, none⟩ (.int .i64 0)) := (Fr.refl (fun i => i = h2) w3).setCell (p := ⟨h2, 2, none⟩) (.inl rfl) (.int .i64 0)
      have k5 : (w3.setCell ⟨h2, 2, none⟩ (.int .i64 0)).heap[h2]? = some (Obj.cells #[.int .i64 (a : Int), .int .i64 (b : Int), .int .i64 0, .slice none 0 0] 42 (0, 0)) := blk_set HBx.out 2 (.int .i64 0)
      have k2 := fs.heap HB.out (fun e => by have e2 : g = h2 := e; have := hgh2.out; omega)
      have kR := HR3.out.fr fs (fun e => hhr.out (show RS r h2 from (show r = h2 from e).symm)) (fun ad e e2 => by have := hBl.out ad e; have := hgw.out; have := hgh2.out; have e3 : ad.block = h2 := e2; omega)
      have kF := HF.out.trans fs (fun i hi => .inr (by rw [show i = h2 from hi]; have := hgw.out; have := hgh2.out; omega))
      have K5 := Lib.hid k5
      have K2 := Lib.hid k2
      have KR := Lib.hid kR
      have KF := Lib.hid kF
      clear k5 k2 kR kF fs
      go_wp2
      go_meet
      case rel => exact ⟨rfl, K2, K5, KR, KF⟩
  case rest =>
    obtain ⟨rfl, HB, HBx, HR, HF⟩ := hcut
    have HG4 := Lib.hid (get_at HR.out 4 4 rfl)
    rw [HN.out] at HG4
    obtain ⟨s4, hs4⟩ : ∃ s4, nx l (nx l s2 1) 4 = s4 := ⟨_, rfl⟩
    have HS4 := Lib.hid hs4
    rw [hs4] at HG4
    clear hs4 hEE
    go_wp2_with fail
    refine HG4.out.mono ?_
    rintro e w5 ⟨rfl, R5, F5⟩
    replace HB := Lib.hid (F5.heap HB.out hgr.out)
    replace HBx := Lib.hid (F5.heap HBx.out hhr.out)
    replace HF := Lib.hid (HF.out.trans F5 (fun i hi => .inl hi))
    have HR5 := Lib.hid R5
    have HON := Lib.hid (Own.nil w5 5)
    clear R5 F5 HG4 HR
    go_wp2
    go_loopg [16] n (fun gk i wr => ∃ (j : Nat) (A' : Option Addr) (c' : Nat), j + gk = n ∧ i = .int .u64 (j : Int) ∧ Hid (wr.heap[g]? = some (.cells #[.int .i64 0, .int .i64 0, .int .i64 0, .slice none 0 0] 42 (0, 0))) ∧ Hid (wr.heap[h2]? = some (.cells #[.int .i64 (a : Int), .int .i64 (b : Int), .int .i64 E, .slice A' j c'] 42 (0, 0))) ∧ Hid (Own wr 5 (.slice A' j c') (bys (manyB l s4 2 j))) ∧ Hid (∀ k, (Value.slice A' j c').ownBlock = some k → h2 < k) ∧ Hid (RdAt wr r B d l (manyS l s4 2 j)) ∧ Hid (Fr (RS r) w wr))
    case atStart => exact ⟨0, none, 0, by omega, rfl, HB, HBx, HON, (by show ∀ k, _; intro k e; simp [Value.ownBlock] at e), HR5, HF⟩
    case round =>
      clear HB HBx HON HF HR5
      obtain ⟨j, A', c', hj, rfl, HB, HBx, HO, NA, HR, HF⟩ := hrel
      by_cases hjn : j < n
      · have D4 := (Fr.refl No wr).drew
        have HG := Lib.hid (get_at (HR.out.fr D4 (fun k => k) (fun _ _ k => k)) 2 2 rfl)
        have ylt := gt_lt l (manyS l s4 2 j) 2
        obtain ⟨y, hy⟩ : ∃ y, gt l (manyS l s4 2 j) 2 = y := ⟨_, rfl⟩
        have hsucc : Hid (bys (manyB l s4 2 (j + 1)) = bys (manyB l s4 2 j) ++ [.int .u8 (y : Int)]) := by
          show bys (manyB l s4 2 (j + 1)) = _
          show bys (manyB l s4 2 j ++ [UInt8.ofNat (gt l (manyS l s4 2 j) 2)]) = _
          rw [hy, bys_append]
          have : (UInt8.ofNat y).toNat = y := UInt8.toNat_ofNat_of_lt' (by show y < 256; omega)
          simp [bys, this]
        have hlen : Hid ((bys (manyB l s4 2 j)).length = j) := by show (bys (manyB l s4 2 j)).length = j; rw [bys_length, manyB_length]
        rw [hy] at HG ylt
        have i6 : IntKind.u8.wrap (y : Int) = (y : Int) := by rw [IntKind.wrap_u8]; omega
        obtain ⟨q0, q1, q2, q3, z0, z1, z2, z3⟩ := four HBx.out
        have HFD := Lib.hid (HF.out.trans D4 (fun _ k => k.elim))
        have HOd := Lib.hid (HO.out.fr D4 (fun _ _ k => k))
        clear q0 q1 q2 z0 z1 z2 z3 hy D4
        go_wp2
        go_region_law (first
          | (refine step_own_append rfl (.tmp 19) (.tmp 23) 22 5 (.int .u8 0) 1 rfl Try.underlying22 infoU8 rfl (by decide) _ (bys (manyB l s4 2 j)) (.int .u8 (y : Int)) _ (by rfl) (by rfl) (by rw [blk_cell (blk_new _ _)]; rfl) rfl (OA.alloc _) (by rw [hlen.out]; omega) ?_
             intro v4 w4 o4 f4 a4
             obtain ⟨A4, c4, hv4, b2b, b5b, Rb, Fb, Nb⟩ := after_lock (n := j + 1) (by rw [List.length_append, hlen.out]; rfl) NA.out hgh2.out hgw.out hrl.out hBl.out RA Fa b2a b5a o4 f4 a4
             subst hv4
             have c6b := (four b5b).2.2.2.1
             have z6b := (four b5b).2.2.2.2.2.2.2)
          | (go_simp
             go_at_call 20
             refine HG.out.mono ?_
             rintro e wa ⟨rfl, RA, FA⟩
             have OA := HOd.out.fr (S := RS r) FA (fun q hq e => by have h1 := NA.out q hq; have h2 : q = r := e; have := hrl.out; have := hgw.out; have := hgh2.out; omega)
             have b2a := FA.heap HB.out hgr.out
             have b5a := FA.heap HBx.out hhr.out
             have c6a := (four b5a).2.2.2.1
             have c6al := (four (blk_alloc b5a (.cells #[.int .u8 (y : Int)] 5))).2.2.2.1
             have Fa := HFD.out.trans FA (fun i hi => .inl hi)))
        all_goals
          have fs : Fr (fun i => i = h2) w4 (w4.setCell ⟨h2, 3, none⟩ (.slice A4 (j + 1) c4)) := (Fr.refl (fun i => i = h2) w4).setCell (p := ⟨h2, 3, none⟩) (.inl rfl) (.slice A4 (j + 1) c4)
          have k5 : (w4.setCell ⟨h2, 3, none⟩ (.slice A4 (j + 1) c4)).heap[h2]? = some (Obj.cells #[.int .i64 (a : Int), .int .i64 (b : Int), .int .i64 E, .slice A4 (j + 1) c4] 42 (0, 0)) := blk_set b5b 3 (.slice A4 (j + 1) c4)
          have k2 := fs.heap b2b (fun e => by have e2 : g = h2 := e; have := hgh2.out; omega)
          have kR := Rb.fr fs (fun e => hhr.out (show RS r h2 from (show r = h2 from e).symm)) (fun ad e e2 => by have := hBl.out ad e; have := hgw.out; have := hgh2.out; have e3 : ad.block = h2 := e2; omega)
          have kO := o4.fr fs (fun k hk e => by have := Nb k hk; have e2 : k = h2 := e; omega)
          have kF := Fb.trans fs (fun i hi => .inr (by rw [show i = h2 from hi]; have := hgw.out; have := hgh2.out; omega))
          rw [← hsucc.out] at kO
          have K2 := Lib.hid k2
          have K5 := Lib.hid k5
          have KR := Lib.hid kR
          have KO := Lib.hid kO
          have KF := Lib.hid kF
          have KN := Lib.hid Nb
          clear k2 k5 kR kO kF fs Nb o4 f4 a4 b2a b5a b2b b5b Rb Fb
          go_wp2
          go_roundg (n - (j + 1))
          case measure => omega
          case rel => exact ⟨j + 1, A4, c4, by omega, by go_num, K2, K5, KO, KN, KR, KF⟩
      · obtain rfl : j = n := by omega
        have RT := HO.out.rd.1
        have hAb : ∀ ad, A' = some ad → h2 < ad.block ∧ ad.block < wr.heap.size := by
          intro ad e
          obtain ⟨A5, c5, h5, _, h6, _⟩ := HO.out.shape
          injection h5 with e5
          have h7 := h6 ad (by rw [← e5]; exact e)
          exact ⟨NA.out _ h7, HO.out.lt h7⟩
        have HRT := Lib.hid RT
        have HAB := Lib.hid hAb
        have hM : Hid (x = ⟨a, b, E, manyB l s4 2 j⟩) := by
          show x = _
          rw [← HX.out, hE.out, HEE.out, HS4.out]
        have hlt : Hid ((manyB l s4 2 j).length = j) := by show (manyB l s4 2 j).length = j; exact manyB_length _ _ _ _
        have hSN : Hid (manyS l s4 2 j = sN) := by show manyS l s4 2 j = sN; rw [← HS4.out]; exact HSN.out
        rw [hSN.out] at HR
        clear RT hAb
        go_wp2_with (first | (refine wpList_load_row rfl 42 (.tmp 3) rfl h2 rfl 42 _ (0, 0) _ HBx.out Try.underlying42 rfl (by kernel_rfl) ?_) | (refine wpList_store_row rfl 42 (.tmp 2) (.tmp 27) rfl g _ rfl rfl 42 _ HB.out (by kernel_rfl) rfl (by simp [Value.oneCell']) ?_))
        refine bodyPost_ret (results_cell1 rfl _ _ _ g _ rfl (run_loadVar_row _ g _ _ _ _ _ (setRow_heap _ g _ _ _ _ HB.out) Try.underlying42 rfl (by kernel_rfl))) rfl ?_
        have fin1 : Rd (wr.setRow g #[.int .i64 (a : Int), .int .i64 (b : Int), .int .i64 E, .slice A' j c']) A' (bys x.p) := by
          rw [hM.out]
          exact HRT.out.row (fun ad e => by have := (HAB.out ad e).1; have := hgh2.out; omega) _
        have fin2 : ∀ ad, A' = some ad → w.heap.size ≤ ad.block ∧ ad.block < (wr.setRow g #[.int .i64 (a : Int), .int .i64 (b : Int), .int .i64 E, .slice A' j c']).heap.size := fun ad e => by
          have h1 := HAB.out ad e
          have := hgh2.out
          have := hgw.out
          refine ⟨by omega, ?_⟩
          have : (wr.setRow g #[.int .i64 (a : Int), .int .i64 (b : Int), .int .i64 E, .slice A' j c']).heap.size = wr.heap.size := by simp [World.setRow]
          omega
        have frow : Fr (fun i => i = g) wr (wr.setRow g #[.int .i64 (a : Int), .int .i64 (b : Int), .int .i64 E, .slice A' j c']) := (Fr.refl _ wr).row (.inl rfl)
        have fin3 := HR.out.fr frow (fun e => hgr.out (show RS r g from (show r = g from e).symm)) (fun ad e e2 => by have := hBl.out ad e; have := hgw.out; have e3 : ad.block = g := e2; omega)
        have fin4 := HF.out.trans frow (fun i hi => .inr (by rw [show i = g from hi]; exact hgw.out))
        first
          | exact ⟨A', c', by rw [hM.out]; simp only [lval, hlt.out], fin1, fin2, fin3, fin4⟩
          | exact ⟨A', ⟨c', by rw [hM.out]; simp only [lval, hlt.out]⟩, fin1, fin2, fin3, fin4⟩
end Go.Proofs.Ythimhjdanmejmaa
