import Derived.Test.YtfkcpooljkpfpaaFiveW
import Derived.Test.YtfkcpooljkpfpaaOpn
import Derived.Deep.SlicePairs
import Derived.StillTailTactics
namespace Go.Proofs.Ytfkcpooljkpfpaa
open Go.RowKit Go Go.Deep

/-- Numbers and widths, as items. -/
abbrev Its := List (Nat × Nat)
def itsOk (l : Its) : Prop := ∀ x ∈ l, x.1 < 18446744073709551616 ∧ x.2 < 256
def RdI (w : World) (A : Option Addr) (l : Its) : Prop := l.length ≤ 9223372036854775807 ∧ ∀ j, j < l.length → ∃ ad, A = some ad ∧ w.cell? (ad.add (j * 2)) = some (.int .u64 ((l.getD j (0, 0)).1 : Int)) ∧ w.cell? (ad.add (j * 2 + 1)) = some (.int .u8 ((l.getD j (0, 0)).2 : Int))
theorem RdI.fr {S : Nat → Prop} {w w1 : World} {A : Option Addr} {l : Its} (h : RdI w A l) (hf : Fr S w w1) (hs : ∀ ad, A = some ad → ¬ S ad.block) : RdI w1 A l :=
  ⟨h.1, fun j hj => by
    obtain ⟨ad, e, h1, h2⟩ := h.2 j hj
    exact ⟨ad, e, hf.cell h1 (by rw [Addr.add_block]; exact hs ad e), hf.cell h2 (by rw [Addr.add_block]; exact hs ad e)⟩⟩
theorem RdI.no {w w1 : World} {A : Option Addr} {l : Its} (h : RdI w A l) (hf : Fr No w w1) : RdI w1 A l := h.fr hf (fun _ _ k => k.elim)
theorem RdI.lt {w : World} {A : Option Addr} {l : Its} (h : RdI w A l) (hn : 0 < l.length) {ad : Addr} (e : A = some ad) : ad.block < w.heap.size := by
  obtain ⟨a, e2, hc, _⟩ := h.2 0 hn
  rw [e] at e2; cases e2
  have := World.block_lt_of_cell? w _ hc
  rwa [Addr.add_block] at this

theorem add_next (ad : Addr) (n i : Nat) : ad.add (n + (i + 1)) = ⟨(ad.add n).block, (ad.add n).off + (i + 1), none⟩ := by
  unfold Addr.add
  by_cases h : n = 0
  · subst h; simp
  · simp [h, Nat.add_assoc]

theorem Own.rd {w : World} {e : TypeId} {A : Option Addr} {n c : Nat} {xs : List Value} (h : Own w e (.slice A n c) xs) : Rd w A xs ∧ n = xs.length ∧ (A = none → c = 0) := by
  obtain ⟨A', c', e, h2, _, h3⟩ := h.shape2
  injection e with e1 e2 e3
  subst e1 e2 e3
  exact ⟨h3, rfl, h2⟩

theorem Own.cap_le {w : World} {e : TypeId} {A : Option Addr} {n c : Nat} {xs : List Value} (h : Own w e (.slice A n c) xs) : c ≤ 9223372036854775807 := by
  rcases h.2 with ⟨h1, _⟩ | ⟨g, cap, cur, h1, _, _, _, hm, _⟩
  · injection h1 with _ _ h3; omega
  · injection h1 with _ _ h3
    simp only [maxLen] at hm
    omega

/-- Items that came in. -/
theorem open_items {H : Type} {enc : TypeId × Value → H} {P : Program} {w : World} {t e : TypeId} {f0 f1 : Field} {A : Option Addr} {len cap : Nat} {d : DataW H} {ps : List MemPlace} (ht : P.underlying t = some (.slice e)) (he : P.underlying e = some (.struct #[f0, f1]))
    (ce : P.cellsOf e = 2) (o0 : f0.offset = 0) (o1 : f1.offset = 1) (c0 : P.cellsOf f0.type = 1) (c1 : P.cellsOf f1.type = 1) (u0 : P.underlying f0.type = some (.int .u64)) (u1 : P.underlying f1.type = some (.int .u8))
    (h : DataW.Trod enc P w 0 (fun _ => true) true t (.slice A len cap) d ps) :
    ∃ l : Its, l.length = len ∧ itsOk l ∧ RdI w A l ∧ (A = none → cap = 0) := by
  obtain ⟨fuel, hf⟩ := h
  rcases open_slice_pairs ht he ce o0 o1 c0 c1 hf with ⟨hcs, _⟩ | ⟨x, l, c, m, n, V0, V1, D0, D1, P0, P1, hcs, _, hl, hm, hmm, _, hx⟩
  · simp [Value.cells] at hcs
    obtain ⟨rfl, rfl, rfl⟩ := hcs
    exact ⟨[], rfl, by simp [itsOk], ⟨by simp, by simp⟩, fun _ => rfl⟩
  · simp [Value.cells] at hcs
    obtain ⟨rfl, rfl, rfl⟩ := hcs
    simp only [if_true] at hmm
    have each : ∀ i, i < len → ∃ q : Nat × Nat, (q.1 < 18446744073709551616 ∧ q.2 < 256) ∧ w.cell? (x.add (i * 2)) = some (.int .u64 (q.1 : Int)) ∧ w.cell? (x.add (i * 2 + 1)) = some (.int .u8 (q.2 : Int)) := by
      intro i hi
      obtain ⟨g0, g1, t0, t1⟩ := hx i (by omega)
      obtain ⟨n0, h0, _, k0⟩ := DataW.trod_int u0 t0
      obtain ⟨n1, h1, _, k1⟩ := DataW.trod_int u1 t1
      have b0 := wf_u64 k0
      have b1 := wf_u8 k1
      refine ⟨(n0.toNat, n1.toNat), ⟨by show n0.toNat < _; omega, by show n1.toNat < _; omega⟩, ?_, ?_⟩
      · rw [g0]; simp at h0; rw [h0]; congr 2; show n0 = (n0.toNat : Int); omega
      · rw [g1]; simp at h1; rw [h1]; congr 2; show n1 = (n1.toNat : Int); omega
    obtain ⟨q, hq⟩ := choose_lt each
    refine ⟨(List.range len).map q, by simp, ?_, ⟨by simp only [List.length_map, List.length_range, maxLen] at *; omega, fun j hj => ⟨x, rfl, ?_⟩⟩, fun h => by cases h⟩
    · intro y hy
      obtain ⟨j, hj, rfl⟩ := List.mem_map.1 hy
      exact (hq j (List.mem_range.1 hj)).1
    · have hj2 : j < len := by simpa using hj
      have e : ((List.range len).map q).getD j (0, 0) = q j := by simp [List.getD_eq_getElem?_getD, hj2]
      rw [e]
      exact (hq j hj2).2

/-- What items are, laid. -/
def wide (n : Nat) : Nat := clamp ((n : Int) % 66)
def laid (l : Its) : List Bool := l.flatMap fun x => putBits x.1 (wide x.2)
theorem wide_le (n : Nat) : wide n ≤ 64 := clamp_le _
theorem laid_len : ∀ l : Its, (laid l).length ≤ 64 * l.length
  | [] => by simp [laid]
  | x :: l => by
    have h := laid_len l
    have h2 := wide_le x.2
    simp only [laid, List.flatMap_cons, List.length_append, putBits_length, List.length_cons] at *
    omega
theorem laid_take (l : Its) (k : Nat) (h : k < l.length) : laid (l.take (k + 1)) = laid (l.take k) ++ putBits (l.getD k (0, 0)).1 (wide (l.getD k (0, 0)).2) := by
  unfold laid
  rw [List.take_add_one, List.flatMap_append, List.getD_eq_getElem?_getD, List.getElem?_eq_getElem h]
  simp

set_option maxRecDepth 20000 in
set_option maxHeartbeats 4000000 in
theorem lay_any {A : Option Addr} {cap : Nat} {l : Its} {w : World} (hr : RdI w A l) (hok : itsOk l) (hb : l.length ≤ 1000) :
    Calls Try.prog 10 #[.slice A l.length cap] w fun e w' => ∃ (g : Nat) (v : Value) (B : Option Addr) (d : Nat), e = .returned (.tuple #[.pointer (some ⟨g, 0, none⟩), .slice B (laid l).length d]) ∧ Wr w' g v (laid l) ∧ Rd w' B (bls (laid l)) ∧ (B = none → d = 0) ∧ w.heap.size ≤ g ∧ Fr No w w' := by
  have HR := Lib.hid hr
  have HOK := Lib.hid hok
  have W0 := Lib.hid (wr_new w)
  have F0 := Lib.hid ((Fr.refl No w).alloc (.cells #[.slice none 0 0, .int .i64 0] 37))
  obtain ⟨g, hg⟩ : ∃ g, w.heap.size = g := ⟨_, rfl⟩
  rw [hg] at W0
  have HG := Lib.hid hg
  clear hr hok
  go_enter Try.func10, Try.ntmps10
  go_wp2
  go_loopg [5, 6] l.length (fun gk b i wr => ∃ (k : Nat) (v : Value) (B : Option Addr) (d : Nat), k + gk = l.length ∧ i = .int .i64 (k : Int) ∧ b = .slice B (laid (l.take k)).length d ∧ Wr wr g v (laid (l.take k)) ∧ Rd wr B (bls (laid (l.take k))) ∧ (B = none → d = 0) ∧ Hid (∀ ad, B = some ad → ad.block ≠ g ∧ v.ownBlock ≠ some ad.block) ∧ Hid (∀ j, v.ownBlock = some j → g ≤ j) ∧ Fr No w wr)
  case atStart => exact ⟨0, _, none, 0, by omega, rfl, rfl, W0.out, Rd.nil _ _, fun _ => rfl, (by show ∀ ad, _; intro ad e; cases e), (by show ∀ j, _; intro j e; simp [Value.ownBlock] at e), F0.out⟩
  case round =>
    obtain ⟨k, v, B, d, hk, rfl, rfl, W1, R1, N1, S1, V1, F1⟩ := hrel
    clear W0 F0
    by_cases hkl : k < l.length
    · obtain ⟨ad, rfl, c0, c1⟩ := (HR.out.no F1).2 k hkl
      have ht := Lib.hid (laid_take l k hkl)
      have hll := laid_len (l.take k)
      have hlt : (l.take k).length ≤ l.length := by rw [List.length_take]; omega
      obtain ⟨N, hN⟩ : ∃ N, (l.getD k (0, 0)).1 = N := ⟨_, rfl⟩
      obtain ⟨y, hy⟩ : ∃ y, (l.getD k (0, 0)).2 = y := ⟨_, rfl⟩
      have hbd := HOK.out (l.getD k (0, 0)) (by rw [List.getD_eq_getElem?_getD, List.getElem?_eq_getElem hkl]; exact List.getElem_mem hkl)
      rw [hN, hy] at hbd ht
      have HNe : Hid ((l.getD k (0, 0)).1 = N ∧ (l.getD k (0, 0)).2 = y) := ⟨hN, hy⟩
      rw [hN] at c0
      rw [hy, add_next ad (k * 2) 0] at c1
      obtain ⟨t, hT⟩ : ∃ t, y % 66 = t := ⟨_, rfl⟩
      have i1 : (y : Int).tmod 66 = (t : Int) := by rw [Int.tmod_eq_emod_of_nonneg (Int.natCast_nonneg _)]; omega
      have i2 : IntKind.u8.wrap (t : Int) = (t : Int) := by rw [IntKind.wrap_u8]; omega
      have i3 : IntKind.i64.wrap (t : Int) = (t : Int) := by rw [IntKind.wrap_i64]; omega
      have hwd : Hid (clamp (t : Int) = wide y) := by show clamp (t : Int) = wide y; unfold wide; congr 1; omega
      obtain ⟨b, hb2⟩ : ∃ b, laid (l.take k) = b := ⟨_, rfl⟩
      rw [hb2] at W1 R1 ht hll ⊢
      have D1 := (Fr.refl No wr).drew
      have HP := Lib.hid (put_any (W1.fr D1 (fun k => k) (fun _ _ k => k)) (by omega) N hbd.1 (t : Int))
      have HI1 := Lib.hid ((HR.out.no F1).no D1)
      have HR1 := Lib.hid (R1.no D1)
      have HN1 := Lib.hid N1
      have HF1 := Lib.hid (F1.trans D1 (fun _ k => k.elim))
      have HB2 := Lib.hid hb2
      have hbt : Hid (b.length ≤ 64000 ∧ t < 66 ∧ (laid (l.take k)).length = b.length) := by show b.length ≤ 64000 ∧ t < 66 ∧ (laid (l.take k)).length = b.length; rw [hb2]; exact ⟨by omega, by omega, rfl⟩
      have hadg : Hid (ad.block < g) := by show ad.block < g; rw [← HG.out]; exact HR.out.lt (by omega) rfl
      clear W1 R1 N1 F1 D1 hb2 hll hlt hN hy hT hbd
      go_wp2_with fail
      go_still_tail 13, (by kernel_rfl)
      go_wp2_with fail
      refine HP.out.mono ?_
      rintro e w1 ⟨rfl, v1, W2, F2, K2⟩
      have G2 := HF1.out.trans F2 (fun i hi => by
        rcases hi with e | e
        · exact .inr (by have := HG.out; omega)
        · exact .inr (by have := HG.out; have := V1.out i e; omega))
      have I2 := HI1.out.fr F2 (fun ad2 e hi => by
        cases e
        rcases hi with e | e
        · have := hadg.out; omega
        · have := hadg.out; have := V1.out _ e; omega)
      have R2 := HR1.out.fr F2 (fun ad2 e hi => by
        have := S1.out ad2 e
        rcases hi with e | e
        · exact this.1 e
        · exact this.2 e)
      obtain ⟨_, e, z0, z1⟩ := I2.2 k hkl
      cases e
      rw [HNe.out.1] at z0
      rw [HNe.out.2, add_next ad (k * 2) 0] at z1
      have D1 := (Fr.refl No w1).drew
      have HP2 := Lib.hid (refPut_any (R2.no D1) HN1.out (by have := hbt.out; omega) N (t : Int) (by have := hbt.out; omega))
      have HI2 := Lib.hid (W2.fr D1 (fun k => k) (fun _ _ k => k))
      have HG2 := Lib.hid (G2.trans D1 (fun _ k => k.elim))
      have V2 : Hid (∀ j, v1.ownBlock = some j → g ≤ j) := by
        show ∀ j, _
        intro j e
        rcases K2 with e1 | ⟨q, e1, hq⟩
        · exact V1.out j (e1 ▸ e)
        · rw [e1] at e; cases e
          have := HF1.out.size
          have := HG.out
          omega
      clear c0 c1 I2 R2 G2 D1 W2 F2 K2 HP
      go_wp2_with fail
      go_still_tail 13, (by kernel_rfl)
      go_wp2_with fail
      refine HP2.out.mono ?_
      rintro e w3 ⟨v3, rfl, O3, N3, F3⟩
      rw [hwd.out, ← ht.out] at O3
      have W3 := HI2.out.fr F3 (fun k => k) (fun _ _ k => k)
      rw [hwd.out, ← ht.out] at W3
      have hwl : ∀ q, v1.ownBlock = some q → q < w1.drew.heap.size := fun q hq => HI2.out.own.lt hq
      have hgl := blk_lt HI2.out.blk
      obtain ⟨A3, c3, rfl, _, hA3, R3⟩ := O3.shape
      have hnil : Hid (A3 = none → c3 = 0) := by
        obtain ⟨A4, c4, e, h4, _, _⟩ := O3.shape2
        injection e with e1 _ e2
        subst e1 e2
        exact h4
      have S3 : Hid (∀ ad, A3 = some ad → ad.block ≠ g ∧ v1.ownBlock ≠ some ad.block) := by
        show ∀ ad, _
        intro a e
        have h1 := N3 _ (hA3 a e)
        exact ⟨by omega, fun h => by have := hwl _ h; omega⟩
      have HR3 := Lib.hid R3
      have HW3 := Lib.hid W3
      have HF3 := Lib.hid (HG2.out.trans F3 (fun _ k => k.elim))
      rw [bls_length]
      clear z0 z1 O3 N3 F3 W3 hwl hgl hA3 R3 HP2 HI2 HG2
      go_wp2
      go_roundg (l.length - (k + 1))
      case measure => omega
      case rel => exact ⟨k + 1, v1, A3, c3, by omega, by go_num, rfl, HW3.out, HR3.out, hnil.out, S3, V2, HF3.out⟩
    · obtain rfl : k = l.length := by omega
      rw [List.take_length] at W1 R1
      have H1 := Lib.hid W1
      have H2 := Lib.hid R1
      have H3 := Lib.hid N1
      have H4 := Lib.hid F1
      clear W1 R1 N1 F1
      go_wp2
      go_ret2
      exact ⟨g, v, B, d, by rw [List.take_length]; rfl, H1.out, H2.out, H3.out, by rw [HG.out]; exact Nat.le_refl _, H4.out⟩
end Go.Proofs.Ytfkcpooljkpfpaa
