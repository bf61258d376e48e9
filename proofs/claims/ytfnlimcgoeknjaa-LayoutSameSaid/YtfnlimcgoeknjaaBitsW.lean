import Derived.Test.YtfnlimcgoeknjaaBytesW
import Derived.Test.YtfnlimcgoeknjaaBitsP
import Derived.Deep.DeepCutAuto
import Derived.StillTailTactics
import Derived.IntWalk
import Derived.Laws.BitsAllLaws
namespace Go.Proofs.Ytfnlimcgoeknjaa
open Go.RowKit Go
attribute [local go_sem] max2_int min2_int max_two min_two

theorem held_any (n : Int) (w : World) : Calls Try.prog 68 #[.int .i64 n] w fun e w' => e = .returned (.int .i64 (min (max n 0) 64)) ∧ w' = w := by
  go_enter Try.func68, Try.ntmps68
  go_wp2
  go_ret
  exact ⟨rfl, rfl⟩

theorem or_pow (b : UInt8) (t : Nat) (ht : t < 8) : bits .or .u8 (b.toNat : Int) ((2 : Int) ^ t % 256) = ((b ||| UInt8.ofNat (2 ^ t)).toNat : Int) := by
  have h2 : 2 ^ t < 256 := Nat.lt_of_lt_of_le (Nat.pow_lt_pow_right (by omega) ht) (by decide)
  have e : ((2 : Int) ^ t % 256) = ((2 ^ t : Nat) : Int) := by
    have : ((2 : Int) ^ t) = ((2 ^ t : Nat) : Int) := by simp
    rw [this]
    generalize 2 ^ t = p at *
    omega
  rw [e, u8_or_nat _ _ b.toNat_lt h2, UInt8.toNat_or, UInt8.toNat_ofNat_of_lt' h2]
/-- A writer at block g: its bytes at v, its bits b. -/
structure Wr (w : World) (g : Nat) (v : Value) (b : List Bool) : Prop where
  blk : w.heap[g]? = some (.cells #[v, .int .i64 (b.length : Int)] 84 (0, 0))
  own : Own w 5 v (bys (pack b))
  ne : v.ownBlock ≠ some g
theorem Wr.fr {S : Nat → Prop} {w w1 : World} {g : Nat} {v : Value} {b : List Bool} (h : Wr w g v b) (hf : Fr S w w1) (hg : ¬ S g) (hv : ∀ k, v.ownBlock = some k → ¬ S k) : Wr w1 g v b :=
  ⟨hf.heap h.blk hg, h.own.fr hf hv, h.ne⟩
/-- What a writer's call may turn: its own blocks. -/
def WS (g : Nat) (v : Value) : Nat → Prop := fun i => i = g ∨ v.ownBlock = some i

set_option maxRecDepth 20000 in
set_option maxHeartbeats 4000000 in
theorem bit_any {w : World} {g : Nat} {v : Value} {b : List Bool} (h : Wr w g v b) (hb : b.length ≤ 1099511627776) (x : Bool) :
    Calls Try.prog 73 #[.pointer (some ⟨g, 0, none⟩), .bool x] w fun e w' => e = .returned (.tuple #[]) ∧ ∃ v', Wr w' g v' (b ++ [x]) ∧ Fr (WS g v) w w' ∧ (v'.ownBlock = v.ownBlock ∨ ∃ k, v'.ownBlock = some k ∧ w.heap.size ≤ k) := by
  obtain ⟨n, hn⟩ : ∃ n, b.length = n := ⟨_, rfl⟩
  have hblk := h.blk
  have hown := h.own
  have hne := h.ne
  rw [hn] at hblk hb
  have hgl := blk_lt hblk
  have c0 : w.cell? ⟨g, 0, none⟩ = some v := by rw [blk_cell hblk]; rfl
  have c1 : w.cell? ⟨g, 1, none⟩ = some (.int .i64 (n : Int)) := by rw [blk_cell hblk]; rfl
  have f0 : w.frozen? ⟨g, 0, none⟩ = false := blk_free hblk 0
  have HB := Lib.hid hblk
  have HO := Lib.hid hown
  have HN := Lib.hid hn
  have HE := Lib.hid hne
  clear h hblk hown hn hne
  go_enter Try.func73, Try.ntmps73
  go_upto_if 9 with (fail)
  go_cut [1] (fun s wc => s = .bool x ∧ ∃ v1, wc.heap[g]? = some (.cells #[v1, .int .i64 (n : Int)] 84 (0, 0)) ∧ Own wc 5 v1 (bys (grown b)) ∧ v1.ownBlock ≠ some g ∧ Fr (WS g v) w wc ∧ (v1.ownBlock = v.ownBlock ∨ ∃ k, v1.ownBlock = some k ∧ w.heap.size ≤ k))
  case first =>
    by_cases h8 : n % 8 = 0
    · have i1 : (n : Int) % 8 = 0 := by omega
      have hgr : Hid (bys (pack b) ++ [.int .u8 0] = bys (grown b)) := by
        show bys (pack b) ++ [.int .u8 0] = bys (grown b)
        unfold grown
        rw [HN.out, if_pos h8, bys_append]; rfl
      clear h8
      go_wp2_with (at_builtin; go_loud (refine own_append rfl (.tmp 14) (.tmp 15) 22 5 (.int .u8 0) 1 rfl Try.underlying22 infoU8 rfl (by decide) v (bys (pack b)) (.int .u8 0) _ rfl rfl rfl rfl HO.out ?hl ?_))
      case hl => rw [bys_length, pack_length, HN.out]; omega
      intro v1 w1 o1 f1 a1
      rw [hgr.out] at o1
      have b1 := f1.heap HB.out HE.out
      have d0 : w1.frozen? ⟨g, 0, none⟩ = false := blk_free b1 0
      have d1 : w1.cell? ⟨g, 0, none⟩ = some v := by rw [blk_cell b1]; rfl
      have ne1 : v1.ownBlock ≠ some g := by
        rcases a1 with e | ⟨k, e, hk⟩
        · rw [e]; exact HE.out
        · rw [e]; intro h; cases h; omega
      obtain ⟨ad1, c1, hv1, _, _, _⟩ := o1.shape
      obtain ⟨L1, hL1⟩ : ∃ L1, (bys (grown b)).length = L1 := ⟨_, rfl⟩
      rw [hL1] at hv1
      subst hv1
      clear hL1
      have O1 := Lib.hid o1
      have F1 := Lib.hid f1
      have A1 := Lib.hid a1
      have B1 := Lib.hid b1
      have N1 := Lib.hid ne1
      clear o1 f1 a1 b1 ne1
      go_wp2
      go_meet
      case rel =>
        have fs : Fr (fun i => i = g) w1 (w1.setCell ⟨g, 0, none⟩ (.slice ad1 L1 c1)) := (Fr.refl (fun i => i = g) w1).setCell (p := ⟨g, 0, none⟩) (.inl rfl) _
        refine ⟨rfl, _, ?_, O1.out.fr fs (fun k hk e => N1.out (by rw [hk, e])), N1.out, ?_, A1.out⟩
        · rw [blk_set B1.out]; rfl
        · exact (F1.out.mono (fun i hi => .inr hi)).trans fs (fun i hi => .inl (.inl hi))
    · have i1 : ¬ (n : Int) % 8 = 0 := by omega
      have hgr : Hid (bys (pack b) = bys (grown b)) := by
        show bys (pack b) = bys (grown b)
        unfold grown
        rw [HN.out, if_neg h8]
      clear h8
      go_wp2
      go_meet
      case rel => exact ⟨rfl, v, HB.out, hgr.out ▸ HO.out, HE.out, Fr.refl _ _, .inl rfl⟩
  case rest =>
    obtain ⟨rfl, v1, b1, o1, ne1, f1, a1⟩ := hcut
    obtain ⟨d, hd⟩ : ∃ d, n / 8 = d := ⟨_, rfl⟩
    obtain ⟨t, ht⟩ : ∃ t, 7 - n % 8 = t := ⟨_, rfl⟩
    obtain ⟨L, hL⟩ : ∃ L, d + 1 = L := ⟨_, rfl⟩
    have hgl : (grown b).length = L := by rw [grown_length, HN.out]; omega
    obtain ⟨q, cc, hv1, hcc, _, hown, hq, hfz, hcl, hset⟩ := o1.form (by rw [bys_length]; omega)
    have HGL := Lib.hid hgl
    rw [bys_length, hgl] at hv1 hcc hcl hset
    subst hv1
    have hqg : q ≠ g := by intro e; exact ne1 (by rw [hown, e])
    have ht8 : t < 8 := by omega
    have HT8 := Lib.hid ht8
    have HF := Lib.hid f1
    have HA := Lib.hid a1
    have HB1 := Lib.hid b1
    have HO1 := Lib.hid o1
    have HNE := Lib.hid ne1
    have HD := Lib.hid hd
    have HT := Lib.hid ht
    have HS := Lib.hid hset
    have g0 : wc.cell? ⟨g, 0, none⟩ = some (.slice (some ⟨q, 0, none⟩) L cc) := by rw [blk_cell b1]; rfl
    have g1 : wc.cell? ⟨g, 1, none⟩ = some (.int .i64 (n : Int)) := by rw [blk_cell b1]; rfl
    have gf : wc.frozen? ⟨g, 1, none⟩ = false := blk_free b1 1
    have fin : ∀ (w2 : World), w2.heap[g]? = some (.cells #[.slice (some ⟨q, 0, none⟩) L cc, .int .i64 (n : Int)] 84 (0, 0)) → Own w2 5 (.slice (some ⟨q, 0, none⟩) L cc) (bys (pack (b ++ [x]))) → Fr (WS g v) w w2 →
        Wr (w2.setCell ⟨g, 1, none⟩ (.int .i64 ((n : Int) + 1))) g (.slice (some ⟨q, 0, none⟩) L cc) (b ++ [x]) ∧ Fr (WS g v) w (w2.setCell ⟨g, 1, none⟩ (.int .i64 ((n : Int) + 1))) := by
      intro w2 h1 h2 h3
      have fs : Fr (fun i => i = g) w2 (w2.setCell ⟨g, 1, none⟩ (.int .i64 ((n : Int) + 1))) := (Fr.refl (fun i => i = g) w2).setCell (p := ⟨g, 1, none⟩) (.inl rfl) _
      refine ⟨⟨?_, h2.fr fs (fun k hk e => HNE.out (by rw [hk, e])), HNE.out⟩, h3.trans fs (fun i hi => .inl (.inl hi))⟩
      rw [blk_set h1, List.length_append, HN.out]
      simp
    have FIN := Lib.hid fin
    have hqS : Hid (WS g v q ∨ w.heap.size ≤ q) := by
      show WS g v q ∨ w.heap.size ≤ q
      rcases HA.out with e | ⟨k, e, hk⟩
      · exact .inl (.inr (by rw [← e]; rfl))
      · cases e; exact .inr hk
    cases x
    · have hp : Hid (pack (b ++ [false]) = grown b) := by show pack (b ++ [false]) = grown b; rw [pack_snoc, if_neg (by decide)]
      clear f1 a1 b1 o1 ne1 hd ht hset hcl hfz fin
      go_wp2
      go_end0
      obtain ⟨z1, z2⟩ := FIN.out _ HB1.out (by rw [hp.out]; exact HO1.out) HF.out
      exact ⟨rfl, _, z1, z2, HA.out⟩
    · obtain ⟨y, hy⟩ : ∃ y, (grown b).getD d 0 = y := ⟨_, rfl⟩
      have hp : Hid (pack (b ++ [true]) = (grown b).set d (y ||| UInt8.ofNat (2 ^ t))) := by
        show pack (b ++ [true]) = (grown b).set d (y ||| UInt8.ofNat (2 ^ t))
        rw [pack_snoc, if_pos rfl, HN.out, HD.out, HT.out, hy]
      have q1 := hcl d (by omega)
      have qf := hfz d
      rw [bys_getD _ (by rw [HGL.out]; omega), hy] at q1
      have i1 : (n : Int).tdiv 8 = (d : Int) := by rw [Int.tdiv_eq_ediv_of_nonneg (by omega)]; omega
      have i2 : IntKind.i64.wrap (d : Int) = (d : Int) := by rw [IntKind.wrap_i64]; omega
      have i3 : (0 : Int) ≤ (d : Int) := by omega
      have i4 : (d : Int) < (L : Int) := by omega
      have i5 : IntKind.i64.wrap (7 - (n : Int).tmod 8) = (t : Int) := by
        rw [Int.tmod_eq_emod_of_nonneg (Int.natCast_nonneg _)]
        have e2 : IntKind.i64.wrap (7 - (n : Int) % 8) = 7 - (n : Int) % 8 := IntWalk.i64_in _ (by omega)
        rw [e2]
        omega
      have i6 : (0 : Int) ≤ (t : Int) := by omega
      clear f1 a1 b1 o1 ne1 hd ht hset hcl hfz fin hy
      go_wp2_with fail
      go_still_tail 20, (by kernel_rfl)
      go_upto_region 4 with (fail)
      rw [or_pow y t HT8.out]
      have k1 : (wc.setCell ⟨q, d, none⟩ (.int .u8 ((y ||| UInt8.ofNat (2 ^ t)).toNat : Int))).drew.heap[g]? = some (.cells #[.slice (some ⟨q, 0, none⟩) L cc, .int .i64 (n : Int)] 84 (0, 0)) := blk_set_ne HB1.out (fun e => hqg e.symm) _
      have k2 : Own (wc.setCell ⟨q, d, none⟩ (.int .u8 ((y ||| UInt8.ofNat (2 ^ t)).toNat : Int))).drew 5 (.slice (some ⟨q, 0, none⟩) L cc) (bys (pack (b ++ [true]))) := by
        have := HS.out d (.int .u8 ((y ||| UInt8.ofNat (2 ^ t)).toNat : Int)) (by omega)
        rw [bys_set] at this
        rw [hp.out]; exact this
      have k3 : Fr (WS g v) w (wc.setCell ⟨q, d, none⟩ (.int .u8 ((y ||| UInt8.ofNat (2 ^ t)).toNat : Int))).drew := (HF.out.setCell (p := ⟨q, d, none⟩) hqS.out _).drew
      generalize (wc.setCell ⟨q, d, none⟩ (.int .u8 ((y ||| UInt8.ofNat (2 ^ t)).toNat : Int))).drew = w2 at *
      have m1 : w2.cell? ⟨g, 1, none⟩ = some (.int .i64 (n : Int)) := by rw [blk_cell k1]; rfl
      have m2 : w2.frozen? ⟨g, 1, none⟩ = false := blk_free k1 1
      obtain ⟨z1, z2⟩ := FIN.out _ k1 k2 k3
      have Z1 := Lib.hid z1
      have Z2 := Lib.hid z2
      clear k1 k2 k3 z1 z2 g0 g1 gf q1 qf
      go_wp2
      go_end0
      exact ⟨rfl, _, Z1.out, Z2.out, HA.out⟩
end Go.Proofs.Ytfnlimcgoeknjaa
