import Derived.Test.YthimhjdanmejmaaEncI
import Derived.Test.YthimhjdanmejmaaOpn
import Derived.Lib.SmallJoins
import Derived.Deep.RegionLaw
import Derived.Deep.RegionHeld3
import Derived.Deep.DeepCutAuto
namespace Go.Proofs.Ythimhjdanmejmaa
open Go.RowKit Go Go.ChangeShapes Go.WideShapes Go.Deep Go.Lib Go.Joins

theorem int_of_trod {H : Type} {enc : TypeId × Value → H} {P : Program} {w : World} {t : TypeId} {k : IntKind} {n : Nat} {v : Value} (hu : P.underlying t = some (.int k)) (h : ∃ y, DataW.trod enc P w 0 (fun _ => true) true n t [v] = some y) : ∃ m : Int, v = .int k m ∧ (Lit.int k m).wf = true := by
  obtain ⟨y, hy⟩ := h
  obtain ⟨m, h0, _, h1⟩ := DataW.trod_int hu hy
  exact ⟨m, by simpa using h0, h1⟩
theorem bool_of_trod {H : Type} {enc : TypeId × Value → H} {P : Program} {w : World} {t : TypeId} {n : Nat} {v : Value} (hu : P.underlying t = some .bool) (h : ∃ y, DataW.trod enc P w 0 (fun _ => true) true n t [v] = some y) : ∃ b : Bool, v = .bool b := by
  obtain ⟨y, hy⟩ := h
  obtain ⟨b, h0, _⟩ := DataW.trod_bool hu hy
  exact ⟨b, by simpa using h0⟩

/-- Locks by numbers, that came in. -/
def InL (w : World) (A : Option Addr) (n : Nat) : Prop := ∀ j, j < n → ∃ (ad : Addr) (r t : Nat) (e : Bool) (B : Option Addr) (d : Nat) (l : List UInt8), A = some ad ∧ (r < 256 ∧ t < 256) ∧ w.cell? (ad.add (j * 4)) = some (.int .u8 (r : Int)) ∧
  w.cell? ⟨(ad.add (j * 4)).block, (ad.add (j * 4)).off + 1, none⟩ = some (.int .u8 (t : Int)) ∧ w.cell? ⟨(ad.add (j * 4)).block, (ad.add (j * 4)).off + 2, none⟩ = some (.bool e) ∧ w.cell? ⟨(ad.add (j * 4)).block, (ad.add (j * 4)).off + 3, none⟩ = some (.slice B l.length d) ∧ Rd w B (bys l)
theorem InL.no {w w1 : World} {A : Option Addr} {n : Nat} (h : InL w A n) (f : Fr No w w1) : InL w1 A n := fun j hj => by
  obtain ⟨ad, r, t, e, B, d, l, h0, hb, h1, h2, h3, h4, h5⟩ := h j hj
  exact ⟨ad, r, t, e, B, d, l, h0, hb, f.cell h1 (fun k => k), f.cell h2 (fun k => k), f.cell h3 (fun k => k), f.cell h4 (fun k => k), h5.no f⟩

theorem open_locks {H : Type} {enc : TypeId × Value → H} {P : Program} {w : World} {t e u8 : TypeId} {f0 f1 f2 f3 : Field} {A : Option Addr} {len cap : Nat} {d : DataW H} {ps : List MemPlace} (ht : P.underlying t = some (.slice e)) (he : P.underlying e = some (.struct #[f0, f1, f2, f3])) (hone : oneCellFields P #[f0, f1, f2, f3] = true) (ce : P.cellsOf e = 4)
    (u0 : P.underlying f0.type = some (.int .u8)) (u1 : P.underlying f1.type = some (.int .u8)) (u2 : P.underlying f2.type = some .bool) (u3 : P.underlying f3.type = some (.slice u8)) (uu : P.underlying u8 = some (.int .u8)) (cu : P.cellsOf u8 = 1)
    (h : DataW.Trod enc P w 0 (fun _ => true) true t (.slice A len cap) d ps) : InL w A len ∧ len ≤ cap ∧ cap ≤ maxLen := by
  obtain ⟨fuel, hf⟩ := h
  rcases open_slice ht hf with ⟨hcs, _⟩ | ⟨x, l, c, m, n, D, Pl, hcs, _, hl, hm, hmm, _, hx⟩
  · simp [Value.cells] at hcs
    obtain ⟨rfl, rfl, rfl⟩ := hcs
    exact ⟨fun j hj => by omega, Nat.le_refl _, Nat.zero_le _⟩
  · simp [Value.cells] at hcs
    obtain ⟨rfl, rfl, rfl⟩ := hcs
    simp only [if_true] at hmm
    refine ⟨fun i hi => ?_, hl, hm⟩
    obtain ⟨cs', h1, h2⟩ := hx i (by omega)
    rw [ce] at h1
    obtain ⟨_, hlen, hcell⟩ := World.cells?_some h1
    obtain ⟨y0, y1, y2, y3, n', _, _, t0, t1, t2, t3⟩ := trod_struct4 he h2
    obtain ⟨o0, k0⟩ := hone_of hone 0 f0 rfl
    obtain ⟨o1, k1⟩ := hone_of hone 1 f1 rfl
    obtain ⟨o2, k2⟩ := hone_of hone 2 f2 rfl
    obtain ⟨o3, k3⟩ := hone_of hone 3 f3 rfl
    match cs', hlen with
    | [v0, v1, v2, v3], _ =>
      obtain ⟨r, rfl, w0⟩ := int_of_trod u0 ⟨y0, by simpa [o0, k0] using t0⟩
      obtain ⟨q, rfl, w1⟩ := int_of_trod u1 ⟨y1, by simpa [o1, k1] using t1⟩
      obtain ⟨b, rfl⟩ := bool_of_trod u2 ⟨y2, by simpa [o2, k2] using t2⟩
      obtain ⟨B, d3, l, rfl, _, _, hR⟩ := bytes_of_trod u3 uu cu (by simpa [o3, k3] using t3)
      have b0 := wf_u8 w0
      have b1 := wf_u8 w1
      obtain ⟨r, rfl⟩ := Int.eq_ofNat_of_zero_le b0.1
      obtain ⟨q, rfl⟩ := Int.eq_ofNat_of_zero_le b1.1
      have e0 := hcell 0 (by simp)
      have e1 := hcell 1 (by simp)
      have e2 := hcell 2 (by simp)
      have e3 := hcell 3 (by simp)
      rw [add_add] at e0 e1 e2 e3
      rw [add_next x (i * 4) 0] at e1
      rw [add_next x (i * 4) 1] at e2
      rw [add_next x (i * 4) 2] at e3
      exact ⟨x, r, q, b, B, d3, l, rfl, ⟨by omega, by omega⟩, by simpa using e0, by simpa using e1, by simpa using e2, by simpa using e3, hR⟩

theorem Rows.fr2 {S : Nat → Prop} {w0 w w1 : World} {e : TypeId} {v : Value} {M : List LkM} (h : Rows w0 w e v M) (hf : Fr S w w1) (h1 : ∀ k, v.ownBlock = some k → ¬ S k) (h2 : ∀ x ∈ M, ∀ ad, x.2.1 = some ad → ¬ S ad.block) : Rows w0 w1 e v M :=
  ⟨h.own.fr hf h1, h.old, fun x hx => ⟨(h.rd x hx).1.fr hf (h2 x hx), fun ad e => ⟨((h.rd x hx).2 ad e).1, ((h.rd x hx).2 ad e).2.1, Nat.lt_of_lt_of_le ((h.rd x hx).2 ad e).2.2 hf.size⟩⟩⟩
/-- The program's row lies apart from the document's. -/
def Sep (w : World) (u1 u2 : Value) (M : List LkM) : Prop := ∀ b, u1.ownBlock = some b → w.heap.size ≤ b ∧ u2.ownBlock ≠ some b ∧ ∀ x ∈ M, ∀ ad, x.2.1 = some ad → ad.block ≠ b
theorem step_one {w wr wi w5 : World} {e1 e2 : TypeId} {u1 u2 v5 : Value} {k : Nat} {xs : List Value} {M : List LkM} {g : Nat} {C : Obj} {x : LkM} (HO : OwnK wr e1 4 u1 k xs) (HR : Rows w wr e2 u2 M) (HS : Sep w u1 u2 M) (HF : Fr No w wr) (F : Fr No wr wi) (hg : g = wr.heap.size) (hb : wi.heap[g]? = some C)
    (hx : Rd wi x.2.1 (bys x.1.p)) (hx2 : ∀ ad, x.2.1 = some ad → g < ad.block ∧ ad.block < wi.heap.size) (f5 : Fr (fun k => u1.ownBlock = some k) wi w5) (a5 : v5.ownBlock = u1.ownBlock ∨ ∃ b, v5.ownBlock = some b ∧ wi.heap.size ≤ b) :
    w5.heap[g]? = some C ∧ Rows w w5 e2 u2 M ∧ Rd w5 x.2.1 (bys x.1.p) ∧ (∀ ad, x.2.1 = some ad → w.heap.size ≤ ad.block ∧ u2.ownBlock ≠ some ad.block ∧ ad.block < w5.heap.size) ∧ Fr No w w5 ∧ Sep w v5 u2 (M ++ [x]) := by
  have hu1 : ∀ b, u1.ownBlock = some b → b < g := fun b e => by rw [hg]; exact HO.lt e
  have hu2 : ∀ b, u2.ownBlock = some b → b < g := fun b e => by rw [hg]; exact HR.own.lt e
  have hw := HF.size
  have hs := F.size
  have hs5 := f5.size
  have hgi := blk_lt hb
  refine ⟨f5.heap hb (fun e => by have := hu1 g e; omega), (HR.no F).fr2 f5 (fun b e e2 => (HS b e2).2.1 e) (fun y hy ad e e2 => (HS _ e2).2.2 y hy ad e rfl), hx.fr f5 (fun ad e e2 => by have := hu1 _ e2; have := (hx2 ad e).1; omega),
    fun ad e => ⟨by have := (hx2 ad e).1; omega, fun e2 => by have := hu2 _ e2; have := (hx2 ad e).1; omega, by have := (hx2 ad e).2; omega⟩, (HF.trans F (fun _ k => k.elim)).trans f5 (fun i hi => .inr (HS i hi).1), ?_⟩
  intro b hb5
  have old : ∀ y ∈ M, ∀ ad, y.2.1 = some ad → ad.block < g := fun y hy ad e => by rw [hg]; exact ((HR.rd y hy).2 ad e).2.2
  rcases a5 with e | ⟨b', e, hb'⟩
  · rw [e] at hb5
    have h1 := HS b hb5
    refine ⟨h1.1, h1.2.1, fun y hy ad e2 => ?_⟩
    rcases List.mem_append.1 hy with hy | hy
    · exact h1.2.2 y hy ad e2
    · simp only [List.mem_singleton] at hy
      subst hy
      have := hu1 b hb5
      have := (hx2 ad e2).1
      omega
  · rw [e] at hb5
    cases hb5
    refine ⟨by omega, fun e2 => by have := hu2 _ e2; omega, fun y hy ad e2 => ?_⟩
    rcases List.mem_append.1 hy with hy | hy
    · have := old y hy ad e2; omega
    · simp only [List.mem_singleton] at hy
      subst hy
      have := (hx2 ad e2).2
      omega
theorem step_two {w w5 w6 : World} {e1 e2 : TypeId} {v5 u2 v6 : Value} {k : Nat} {ys : List Value} {M : List LkM} {x : LkM} (HR : Rows w w5 e2 u2 M) (hx : Rd w5 x.2.1 (bys x.1.p)) (hx2 : ∀ ad, x.2.1 = some ad → w.heap.size ≤ ad.block ∧ u2.ownBlock ≠ some ad.block ∧ ad.block < w5.heap.size) (HF : Fr No w w5) (HS : Sep w v5 u2 (M ++ [x]))
    (o5 : OwnK w5 e1 4 v5 k ys) (o6 : OwnK w6 e2 4 v6 (M.length + 1) (M.flatMap lcells ++ lcells x)) (f6 : Fr (fun k => u2.ownBlock = some k) w5 w6) (a6 : v6.ownBlock = u2.ownBlock ∨ ∃ b, v6.ownBlock = some b ∧ w5.heap.size ≤ b) :
    OwnK w6 e1 4 v5 k ys ∧ Rows w w6 e2 v6 (M ++ [x]) ∧ Sep w v5 v6 (M ++ [x]) ∧ Fr No w w6 := by
  refine ⟨o5.fr f6 (fun b e e2 => (HS b e).2.1 e2), HR.snoc o6 f6 a6 HF.size hx hx2, fun b e => ⟨(HS b e).1, ?_, (HS b e).2.2⟩, HF.trans f6 (fun i hi => .inr (HR.old i hi))⟩
  rcases a6 with e6 | ⟨b', e6, hb'⟩
  · rw [e6]; exact (HS b e).2.1
  · rw [e6]
    intro e7
    cases e7
    have := o5.lt e
    omega
theorem after_inL {wr wi w4 : World} {g : Nat} {v v4 : Value} {C Y : Obj} {e : TypeId} {xs : List Value} {n : Nat} (hn : xs.length = n) (NA : ∀ k, v.ownBlock = some k → g < k) (F : Fr No wr wi) (b5 : wi.heap[g]? = some C) (o4 : Own w4 e v4 xs) (f4 : Fr (fun k => v.ownBlock = some k) (wi.alloc Y).drew w4)
    (a4 : v4.ownBlock = v.ownBlock ∨ ∃ b, v4.ownBlock = some b ∧ (wi.alloc Y).drew.heap.size ≤ b) (hg : g = wr.heap.size) :
    ∃ A4 c4, v4 = .slice A4 n c4 ∧ w4.heap[g]? = some C ∧ Fr No wr w4 ∧ (∀ k, v4.ownBlock = some k → g < k) := by
  obtain ⟨A4, c4, hv4, _, _, _⟩ := o4.shape
  rw [hn] at hv4
  have f5 : Fr (fun k => v.ownBlock = some k) wi w4 := ((Fr.refl No wi).alloc Y).drew.no.trans f4 (fun i hi => .inl hi)
  refine ⟨A4, c4, hv4, f5.heap b5 (fun e => by have := NA _ e; omega), F.trans f5 (fun i hi => .inr (by have := NA _ hi; omega)), ?_⟩
  intro k hk
  rcases a4 with e | ⟨b, e, hb⟩
  · rw [e] at hk; exact NA k hk
  · rw [e] at hk; cases hk
    have h1 : wi.heap.size + 1 ≤ (wi.alloc Y).drew.heap.size := by show wi.heap.size + 1 ≤ (wi.alloc Y).heap.size; simp
    have h2 := blk_lt b5
    omega

set_option maxRecDepth 20000 in
set_option maxHeartbeats 4000000 in
theorem of_any {A : Option Addr} {n c : Nat} {w : World} (h : InL w A n) (hn : n ≤ 20) :
    Calls Try.prog 8 #[.slice A n c] w fun e w' => ∃ v1 v2 M, e = .returned (.tuple #[v1, v2]) ∧ (M.length = n ∧ ∀ x ∈ M, x.1.p.length ≤ 15) ∧ Rows w w' 43 v2 M ∧ Fr No w w' := by
  have HL := Lib.hid h
  clear h
  go_enter Try.func8, Try.ntmps8
  go_wp2
  go_loopg [4, 5, 6] n (fun gk v1 v2 i wr => ∃ (k : Nat) (u1 u2 : Value) (xs : List Value) (M : List LkM), k + gk = n ∧ u1 = v1 ∧ u2 = v2 ∧ i = .int .i64 (k : Int) ∧ Hid (OwnK wr 42 4 u1 k xs) ∧ Hid (M.length = k ∧ ∀ x ∈ M, x.1.p.length ≤ 15) ∧ Hid (Rows w wr 43 u2 M) ∧ Hid (Sep w u1 u2 M) ∧ Hid (Fr No w wr))
  case atStart => exact ⟨0, _, _, [], [], by omega, rfl, rfl, rfl, OwnK.nil _ _ _, ⟨rfl, by simp⟩, Rows.nil _ _ _, (by show ∀ b, _; intro b e; simp [Value.ownBlock] at e), Fr.refl _ _⟩
  case round =>
    obtain ⟨k, u1, u2, xs, M, hk, rfl, rfl, rfl, HO, HM, HR, HS, HF⟩ := hrel
    obtain ⟨wo, rfl⟩ : ∃ wo, wo = wr := ⟨_, rfl⟩
    by_cases hkn : k < n
    · obtain ⟨ad, r, t, q, B, d, l, rfl, ⟨hr, ht⟩, c0, c1, c2, c3, hB⟩ := HL.out.no HF.out k hkn
      have i1 : IntKind.i64.wrap (r : Int) = (r : Int) := by rw [IntKind.wrap_i64]; omega
      have i2 : IntKind.i64.wrap (t : Int) = (t : Int) := by rw [IntKind.wrap_i64]; omega
      have j1 : (0 : Int) ≤ (k : Int) := by omega
      have j2 : (k : Int) < (n : Int) := by omega
      have hk20 : k < 20 := by omega
      have c0a : (wo.alloc (.cells #[.int .i64 0, .int .i64 0, .int .i64 0, .slice none 0 0] 42)).cell? (ad.add (k * 4)) = some (.int .u8 (r : Int)) := ((Fr.refl No wo).alloc _).cell c0 (fun k => k)
      have c1a : (wo.alloc (.cells #[.int .i64 0, .int .i64 0, .int .i64 0, .slice none 0 0] 42)).cell? ⟨(ad.add (k * 4)).block, (ad.add (k * 4)).off + 1, none⟩ = some (.int .u8 (t : Int)) := ((Fr.refl No wo).alloc _).cell c1 (fun k => k)
      have FA : Fr No wo (wo.alloc (.cells #[.int .i64 (r : Int), .int .i64 (t : Int), .int .i64 (-1), .slice none 0 0] 42)).drew := ((Fr.refl No wo).alloc _).drew
      have BA : (wo.alloc (.cells #[.int .i64 (r : Int), .int .i64 (t : Int), .int .i64 (-1), .slice none 0 0] 42)).drew.heap[wo.heap.size]? = some (.cells #[.int .i64 (r : Int), .int .i64 (t : Int), .int .i64 (-1), .slice none 0 0] 42 (0, 0)) := blk_new _ _
      have HFA := Lib.hid FA
      have HBA := Lib.hid BA
      have HC2 := Lib.hid c2
      have HC3 := Lib.hid c3
      have HBY := Lib.hid hB
      clear FA BA c2 c3 hB
      go_upto_region 6 with (fail)
      go_cut [7] (fun p wc => p = .pointer (some ⟨wo.heap.size, 0, none⟩) ∧ wc = (wo.alloc (.cells #[.int .i64 (r : Int), .int .i64 (t : Int), .int .i64 (-1), .slice none 0 0] 42)).drew)
      case first =>
        go_region_law (fail)
        all_goals (go_wp2_with fail; go_meet; exact ⟨rfl, rfl⟩)
      case rest =>
        obtain ⟨rfl, rfl⟩ := hcut
        obtain ⟨g, hg⟩ : ∃ g, wo.heap.size = g := ⟨_, rfl⟩
        rw [hg] at HBA
        obtain ⟨w6, hw6⟩ : ∃ w6, (wo.alloc (.cells #[.int .i64 (r : Int), .int .i64 (t : Int), .int .i64 (-1), .slice none 0 0] 42)).drew = w6 := ⟨_, rfl⟩
        rw [hw6] at HBA HFA ⊢
        rw [hg]
        have hgw := Lib.hid hg
        obtain ⟨E, hE⟩ : ∃ E : Int, (if q = true then 0 else -1) = E := ⟨_, rfl⟩
        have HE := Lib.hid hE
        have c2 := HFA.out.cell HC2.out (fun k => k)
        obtain ⟨_, _, _, _, _, _, z2, _⟩ := four HBA.out
        clear c0 c1 c0a c1a i1 i2 hg hw6 hE
        go_upto_if 32 with (fail)
        go_cut [7] (fun p wc => p = .pointer (some ⟨g, 0, none⟩) ∧ Hid (wc.heap[g]? = some (.cells #[.int .i64 (r : Int), .int .i64 (t : Int), .int .i64 E, .slice none 0 0] 42 (0, 0))) ∧ Hid (Fr No wo wc))
        case first =>
          cases q
          · have hE1 : (-1 : Int) = E := by have := HE.out; simpa using this
            subst hE1
            go_wp2
            go_meet
            case rel => exact ⟨rfl, HBA, HFA⟩
          · have hE1 : (0 : Int) = E := by have := HE.out; simpa using this
            subst hE1
            have fs : Fr (fun i => i = g) w6 (w6.setCell ⟨g, 2, none⟩ (.int .i64 0)) := (Fr.refl (fun i => i = g) w6).setCell (p := ⟨g, 2, none⟩) (.inl rfl) (.int .i64 0)
            have k5 : (w6.setCell ⟨g, 2, none⟩ (.int .i64 0)).heap[g]? = some (Obj.cells #[.int .i64 (r : Int), .int .i64 (t : Int), .int .i64 0, .slice none 0 0] 42 (0, 0)) := blk_set HBA.out 2 (.int .i64 0)
            have kF := HFA.out.trans fs (fun i hi => .inr (by rw [show i = g from hi, ← hgw.out]; exact Nat.le_refl _))
            have K5 := Lib.hid k5
            have KF := Lib.hid kF
            clear fs k5 kF
            go_wp2
            go_meet
            case rel => exact ⟨rfl, K5, KF⟩
        case rest =>
          obtain ⟨rfl, HBg, HFg⟩ := hcut
          clear c2 z2 HC2 HBA HFA
          obtain ⟨m, hm⟩ : ∃ m, min l.length 15 = m := ⟨_, rfl⟩
          go_wp2
          go_loopg [8] m (fun gk2 i wr => ∃ (j : Nat) (A' : Option Addr) (c' : Nat) (ps : List UInt8), j + gk2 = m ∧ i = .int .i64 (j : Int) ∧ Hid (wr.heap[g]? = some (.cells #[.int .i64 (r : Int), .int .i64 (t : Int), .int .i64 E, .slice A' j c'] 42 (0, 0))) ∧ Hid (Own wr 5 (.slice A' j c') (bys ps)) ∧ Hid (ps.length = j) ∧ Hid (∀ k, (Value.slice A' j c').ownBlock = some k → g < k) ∧ Hid (Fr No wo wr))
          case atStart => exact ⟨0, none, 0, [], by omega, rfl, HBg, (by show Own _ _ _ _; exact Own.nil _ _), rfl, (by show ∀ k, _; intro k e; simp [Value.ownBlock] at e), HFg⟩
          case round =>
            clear HBg HFg
            obtain ⟨j, A', c', ps, hj, rfl, HBg, HOP, HPL, NA, HFg⟩ := hrel
            have c3 := HFg.out.cell HC3.out (fun k => k)
            by_cases hjm : j < m
            · have hjl : j < l.length := by omega
              have hj15 : j < 15 := by omega
              obtain ⟨bd, rfl, cb⟩ := (HBY.out.no HFg.out).byte hjl
              obtain ⟨y, hy⟩ : ∃ y, (l.getD j 0).toNat = y := ⟨_, rfl⟩
              have hy8 : y < 256 := by rw [← hy]; exact UInt8.toNat_lt _
              obtain ⟨z, hz⟩ : ∃ z, y % 3 = z := ⟨_, rfl⟩
              have i1 : (y : Int).tmod 3 = (z : Int) := by rw [Int.tmod_eq_emod_of_nonneg (Int.natCast_nonneg _)]; omega
              have i2 : IntKind.u8.wrap (z : Int) = (z : Int) := by rw [IntKind.wrap_u8]; omega
              have hsucc : Hid (bys ps ++ [.int .u8 (z : Int)] = bys (ps ++ [UInt8.ofNat z])) := by
                show bys ps ++ [.int .u8 (z : Int)] = bys (ps ++ [UInt8.ofNat z])
                rw [bys_append]
                have : (UInt8.ofNat z).toNat = z := UInt8.toNat_ofNat_of_lt' (by show z < 256; omega)
                simp [bys, this]
              have hlen : Hid ((bys ps).length = j) := by show (bys ps).length = j; rw [bys_length]; exact HPL.out
              rw [hy] at cb
              have j3 : (j : Int) < (l.length : Int) := by omega
              have j4 : (0 : Int) ≤ (j : Int) := by omega
              obtain ⟨q0, q1, q2, q3, z0, z1, z2, z3⟩ := four HBg.out
              have FX : Fr No wr (wr.alloc (.cells #[.int .u8 (z : Int)] 5)) := (Fr.refl No wr).alloc _
              have q3a := FX.cell q3 (fun k => k)
              have c3a := FX.cell c3 (fun k => k)
              have cba := FX.cell cb (fun k => k)
              clear hy hz FX q0 q1 q2 z0 z1 z2 z3
              go_wp2
              go_region_law (refine step_own_append rfl (.tmp 49) (.tmp 59) 22 5 (.int .u8 0) 1 rfl Try.underlying22 infoU8 rfl (by decide) _ (bys ps) (.int .u8 (z : Int)) _ (by rfl) (by rfl) (by show (wr.alloc (.cells #[.int .u8 (z : Int)] 5)).cell? _ = _; rw [blk_cell (blk_new _ _)]; rfl) rfl (show Own (wr.alloc (.cells #[.int .u8 (z : Int)] 5)).drew _ _ _ from (HOP.out.alloc _).fr ((Fr.refl No _).drew) (fun _ _ k => k)) (by rw [hlen.out]; omega) ?_
                             intro v4 w4 o4 f4 a4
                             obtain ⟨A4, c4, hv4, b5b, Fb, Nb⟩ := after_inL (n := j + 1) (by rw [List.length_append, hlen.out]; rfl) NA.out HFg.out HBg.out o4 f4 a4 hgw.out.symm
                             subst hv4
                             have c6b := (four b5b).2.2.2.1
                             have z6b := (four b5b).2.2.2.2.2.2.2)
              all_goals
                have fs : Fr (fun i => i = g) w4 (w4.setCell ⟨g, 3, none⟩ (.slice A4 (j + 1) c4)) := (Fr.refl (fun i => i = g) w4).setCell (p := ⟨g, 3, none⟩) (.inl rfl) (.slice A4 (j + 1) c4)
                have k5 : (w4.setCell ⟨g, 3, none⟩ (.slice A4 (j + 1) c4)).heap[g]? = some (Obj.cells #[.int .i64 (r : Int), .int .i64 (t : Int), .int .i64 E, .slice A4 (j + 1) c4] 42 (0, 0)) := blk_set b5b 3 (.slice A4 (j + 1) c4)
                have kO := o4.fr fs (fun k hk e => by have := Nb k hk; have e2 : k = g := e; omega)
                have kF := Fb.trans fs (fun i hi => .inr (by rw [show i = g from hi, ← hgw.out]; exact Nat.le_refl _))
                rw [hsucc.out] at kO
                have K5 := Lib.hid k5
                have KO := Lib.hid kO
                have KF := Lib.hid kF
                have KN := Lib.hid Nb
                have KL : Hid ((ps ++ [UInt8.ofNat z]).length = j + 1) := by show (ps ++ [UInt8.ofNat z]).length = j + 1; rw [List.length_append, HPL.out]; rfl
                clear k5 kO kF fs Nb o4 f4 a4 b5b Fb
                go_wp2
                go_roundg (m - (j + 1))
                case measure => omega
                case rel => exact ⟨j + 1, A4, c4, ps ++ [UInt8.ofNat z], by omega, by go_num, K5, KO, KL, KN, KF⟩
            · obtain rfl : j = m := by omega
              have RT := HOP.out.rd.1
              have hAb : ∀ ad, A' = some ad → g < ad.block ∧ ad.block < wr.heap.size := by
                intro ad e
                obtain ⟨A5, c5, h5, _, h6, _⟩ := HOP.out.shape
                injection h5 with e5
                have h7 := h6 ad (by rw [← e5]; exact e)
                exact ⟨NA.out _ h7, HOP.out.lt h7⟩
              have HRT := Lib.hid RT
              have HAB := Lib.hid hAb
              have hx : ¬ ((j : Int) < (l.length : Int) ∧ (j : Int) < 15) := by omega
              have hj15 : j ≤ 15 := by omega
              have HO' := Lib.hid (HO.out.no HFg.out)
              have hML := Lib.hid HM.out.1
              clear RT hAb HBY
              by_cases hjl : j < l.length
              · have hn15 : ¬ (j : Int) < 15 := by omega
                have hjl2 : (j : Int) < (l.length : Int) := by omega
                clear hx hjl
                go_upto_region 13 with (fail)
                go_wp2_with (first | (refine wpList_load_row rfl 42 (.tmp 7) rfl g rfl 42 _ (0, 0) _ HBg.out Try.underlying42 rfl (by kernel_rfl) ?_) | (at_builtin; go_loud (refine own_append_k rfl (.tmp 62) (.tmp 64) 28 42 (.agg #[.int .i64 0, .int .i64 0, .int .i64 0, .slice none 0 0]) 4 48 rfl Try.underlying28 infoLock rfl (by decide) (by decide) _ k xs #[.int .i64 (r : Int), .int .i64 (t : Int), .int .i64 E, .slice A' j c'] _ rfl rfl rfl rfl ?h1 HO'.out ?hl ?_)))
                case h1 => simp [Value.oneCell']
                case hl => omega
                intro v5 w5 o5 f5 a5
                obtain ⟨b5, R5, P5, N5, F5, S5⟩ := step_one (x := (⟨r, t, E, ps⟩, A', c')) HO.out HR.out HS.out HF.out HFg.out hgw.out.symm HBg.out HRT.out HAB.out f5 a5
                obtain ⟨q0, q1, q2, q3, _⟩ := four b5
                have HO5 := Lib.hid o5
                have HR5 := Lib.hid R5
                have HP5 := Lib.hid P5
                have HN5 := Lib.hid N5
                have HF5 := Lib.hid F5
                have HS5 := Lib.hid S5
                clear o5 f5 a5 b5 R5 P5 N5 F5 S5 HO HR HS HF HFg HBg HRT HAB HO' HOP
                go_wp2_with (at_builtin; go_loud (refine own_append_k rfl (.tmp 66) (.tmp 76) 29 43 (.agg #[.int .i64 0, .int .i64 0, .int .i64 0, .slice none 0 0]) 4 48 rfl Try.underlying29 infoLock15 rfl (by decide) (by decide) _ M.length (M.flatMap lcells) #[.int .i64 (r : Int), .int .i64 (t : Int), .int .i64 E, .slice A' j c'] _ rfl rfl rfl rfl ?h1 HR5.out.own ?hl ?_))
                case h1 => simp [Value.oneCell']
                case hl => rw [hML.out]; omega
                intro v6 w6 o6 f6 a6
                obtain ⟨X1, X2, X3, X4⟩ := step_two (x := (⟨r, t, E, ps⟩, A', c')) HR5.out HP5.out HN5.out HF5.out HS5.out HO5.out (by simp only [lcells, HPL.out]; exact o6) f6 a6
                have Y1 := Lib.hid X1
                have Y2 := Lib.hid X2
                have Y3 := Lib.hid X3
                have Y4 := Lib.hid X4
                have Y5 : Hid ((M ++ [((⟨r, t, E, ps⟩, A', c') : LkM)]).length = k + 1 ∧ ∀ x ∈ M ++ [((⟨r, t, E, ps⟩, A', c') : LkM)], x.1.p.length ≤ 15) := by
                  refine ⟨by rw [List.length_append, hML.out]; rfl, fun x hx => ?_⟩
                  rcases List.mem_append.1 hx with hx | hx
                  · exact HM.out.2 x hx
                  · simp only [List.mem_singleton] at hx
                    subst hx
                    show ps.length ≤ 15
                    rw [HPL.out]; exact hj15
                clear X1 X2 X3 X4 o6 f6 a6
                go_wp2
                go_roundg (n - (k + 1))
                case measure => omega
                case rel => exact ⟨k + 1, v5, v6, _, _, by omega, rfl, rfl, by go_num, Y1, Y5, Y2, Y3, Y4⟩
              · have hjl2 : ¬ (j : Int) < (l.length : Int) := by omega
                clear hx hjl
                go_upto_region 13 with (fail)
                go_wp2_with (first | (refine wpList_load_row rfl 42 (.tmp 7) rfl g rfl 42 _ (0, 0) _ HBg.out Try.underlying42 rfl (by kernel_rfl) ?_) | (at_builtin; go_loud (refine own_append_k rfl (.tmp 62) (.tmp 64) 28 42 (.agg #[.int .i64 0, .int .i64 0, .int .i64 0, .slice none 0 0]) 4 48 rfl Try.underlying28 infoLock rfl (by decide) (by decide) _ k xs #[.int .i64 (r : Int), .int .i64 (t : Int), .int .i64 E, .slice A' j c'] _ rfl rfl rfl rfl ?h1 HO'.out ?hl ?_)))
                case h1 => simp [Value.oneCell']
                case hl => omega
                intro v5 w5 o5 f5 a5
                obtain ⟨b5, R5, P5, N5, F5, S5⟩ := step_one (x := (⟨r, t, E, ps⟩, A', c')) HO.out HR.out HS.out HF.out HFg.out hgw.out.symm HBg.out HRT.out HAB.out f5 a5
                obtain ⟨q0, q1, q2, q3, _⟩ := four b5
                have HO5 := Lib.hid o5
                have HR5 := Lib.hid R5
                have HP5 := Lib.hid P5
                have HN5 := Lib.hid N5
                have HF5 := Lib.hid F5
                have HS5 := Lib.hid S5
                clear o5 f5 a5 b5 R5 P5 N5 F5 S5 HO HR HS HF HFg HBg HRT HAB HO' HOP
                go_wp2_with (at_builtin; go_loud (refine own_append_k rfl (.tmp 66) (.tmp 76) 29 43 (.agg #[.int .i64 0, .int .i64 0, .int .i64 0, .slice none 0 0]) 4 48 rfl Try.underlying29 infoLock15 rfl (by decide) (by decide) _ M.length (M.flatMap lcells) #[.int .i64 (r : Int), .int .i64 (t : Int), .int .i64 E, .slice A' j c'] _ rfl rfl rfl rfl ?h1 HR5.out.own ?hl ?_))
                case h1 => simp [Value.oneCell']
                case hl => rw [hML.out]; omega
                intro v6 w6 o6 f6 a6
                obtain ⟨X1, X2, X3, X4⟩ := step_two (x := (⟨r, t, E, ps⟩, A', c')) HR5.out HP5.out HN5.out HF5.out HS5.out HO5.out (by simp only [lcells, HPL.out]; exact o6) f6 a6
                have Y1 := Lib.hid X1
                have Y2 := Lib.hid X2
                have Y3 := Lib.hid X3
                have Y4 := Lib.hid X4
                have Y5 : Hid ((M ++ [((⟨r, t, E, ps⟩, A', c') : LkM)]).length = k + 1 ∧ ∀ x ∈ M ++ [((⟨r, t, E, ps⟩, A', c') : LkM)], x.1.p.length ≤ 15) := by
                  refine ⟨by rw [List.length_append, hML.out]; rfl, fun x hx => ?_⟩
                  rcases List.mem_append.1 hx with hx | hx
                  · exact HM.out.2 x hx
                  · simp only [List.mem_singleton] at hx
                    subst hx
                    show ps.length ≤ 15
                    rw [HPL.out]; exact hj15
                clear X1 X2 X3 X4 o6 f6 a6
                go_wp2
                go_roundg (n - (k + 1))
                case measure => omega
                case rel => exact ⟨k + 1, v5, v6, _, _, by omega, rfl, rfl, by go_num, Y1, Y5, Y2, Y3, Y4⟩
    · obtain rfl : k = n := by omega
      go_wp2
      go_ret2
      exact ⟨u1, u2, M, rfl, HM.out, HR.out, HF.out⟩
end Go.Proofs.Ythimhjdanmejmaa
