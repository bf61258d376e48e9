import Derived.Test.YtfkcpooljkpfpaaLayW
import Derived.Deep.RegionHeld3
import Derived.Deep.DeepCutAuto
namespace Go.Proofs.Ytfkcpooljkpfpaa
open Go.RowKit Go

/-- The reader and the document's one are at the same place. -/
def Both (l : List UInt8) (at_ : Nat) (f : Bool) (b : List Bool) : Prop := b = if f = true then [] else (ofBytes l).drop at_
theorem bitAt_drop (b : List Bool) (n j : Nat) : bitAt (b.drop n) j = bitAt b (n + j) := by
  simp [bitAt, List.getD_eq_getElem?_getD]
theorem both_left {l : List UInt8} {at_ : Nat} {f : Bool} {b : List Bool} (h : Both l at_ f b) : b.length = left l at_ f := by
  unfold Both at h
  subst h
  unfold left
  cases f <;> simp [ofBytes_length]
theorem both_step {l : List UInt8} {at_ : Nat} {f : Bool} {b : List Bool} (h : Both l at_ f b) (m : Nat) :
    rgot b f m = got l at_ f m ∧ rover b f m = (f || over l at_ f m) ∧ Both l (nextAt l at_ f m) (f || over l at_ f m) (rnext b f m) := by
  have hl := both_left h
  have ho : rover b f m = (f || over l at_ f m) := by unfold rover over; rw [hl]
  unfold Both at h
  cases f
  · have ho' : rover b false m = over l at_ false m := by rw [ho]; rfl
    rw [if_neg (by decide)] at h
    refine ⟨?_, ho, ?_⟩
    · unfold rgot got
      rw [ho']
      split
      · rfl
      · rw [h]; exact num_congr (fun j _ => by rw [bitAt_drop, Nat.zero_add])
    · unfold Both rnext nextAt
      rw [ho']
      cases over l at_ false m
      · simp [h, List.drop_drop]
      · simp
  · have ho' : rover b true m = true := by rw [ho]; rfl
    rw [if_pos rfl] at h
    refine ⟨?_, ho, ?_⟩
    · unfold rgot got
      rw [if_pos ho']
      by_cases hm : over l at_ true m = true
      · rw [if_pos hm]
      · rw [if_neg hm]
        have : m = 0 := by unfold over left at hm; simp at hm; omega
        subst this; rfl
    · unfold Both rnext
      rw [if_pos ho']; simp
theorem both_end {l : List UInt8} {at_ : Nat} {f : Bool} {b : List Bool} (h : Both l at_ f b) : rends b f = ends l at_ f := by
  have hl := both_left h
  unfold Both at h
  unfold rends ends
  cases f
  · rw [if_neg (by decide)] at h
    have hl2 : b.length = 8 * l.length - at_ := by rw [hl]; unfold left; simp
    rw [hl2]
    have e : num (bitAt b) 0 (8 * l.length - at_) = num (bitAt (ofBytes l)) at_ (8 * l.length - at_) := by
      rw [h]; exact num_congr (fun j _ => by rw [bitAt_drop, Nat.zero_add])
    rw [e]
    congr 2
    simp
    omega
  · rfl

set_option maxRecDepth 20000 in
set_option maxHeartbeats 4000000 in
theorem bitsReads_any {A H : Option Addr} {cap hc : Nat} {l : List UInt8} {hs : List Int} (w : World) (hr : Rd w A (bys l)) (hA : A = none → cap = 0) (hh : Rd w H (ints .i8 hs)) (hw : ∀ n ∈ hs, -128 ≤ n ∧ n ≤ 127) :
    Calls Try.prog 6 #[.slice A l.length cap, .slice H hs.length hc] w fun e w' => e = .returned (.bool true) ∧ Fr No w w' := by
  have HR := Lib.hid hr
  have HA := Lib.hid hA
  have HH := Lib.hid hh
  have HW := Lib.hid hw
  clear hr hA hh hw
  go_enter Try.func6, Try.ntmps6
  go_wp2_with fail
  refine (five_any _).mono ?_
  rintro e w1 ⟨rfl, F1⟩
  by_cases hl : 60 < l.length
  · go_wp2_with fail
    refine (five_any _).mono ?_
    rintro e w2 ⟨rfl, F2⟩
    go_wp2
    go_ret
    exact ⟨rfl, F1.trans F2 (fun _ k => k.elim)⟩
  by_cases hl2 : 60 < hs.length
  · go_wp2_with fail
    refine (five_any _).mono ?_
    rintro e w2 ⟨rfl, F2⟩
    go_wp2
    go_ret
    exact ⟨rfl, F1.trans F2 (fun _ k => k.elim)⟩
  have HN := Lib.hid (newReader_any (c := cap) (HR.out.no F1) HA.out (by omega))
  have HF1 := Lib.hid F1
  clear F1
  go_wp2_with fail
  refine HN.out.mono ?_
  rintro e w2 ⟨r, B8, d8, rfl, R2, hr2, hB2, F2⟩
  have G2 := HF1.out.trans F2 (fun _ k => k.elim)
  have HO := Lib.hid (refOf_any (c := cap) (HR.out.no G2) (by omega))
  have HR2 := Lib.hid R2
  have HG2 := Lib.hid G2
  have hrg : Hid (w.heap.size ≤ r ∧ r < w2.heap.size) := by show w.heap.size ≤ r ∧ r < w2.heap.size; exact ⟨Nat.le_trans HF1.out.size hr2, blk_lt R2.blk⟩
  have hBg : Hid (∀ ad, B8 = some ad → w.heap.size ≤ ad.block ∧ ad.block < w2.heap.size) := by
    show ∀ ad, _
    exact fun ad e => ⟨Nat.le_trans HF1.out.size (hB2 ad e), R2.lt ad e⟩
  clear R2 F2 G2 hr2 hB2 HN
  go_wp2_with fail
  refine HO.out.mono ?_
  rintro e w3 ⟨v3, rfl, O3, N3, F3⟩
  obtain ⟨C, c3, rfl, hCc, hC, R3⟩ := O3.shape
  have hnil : C = none → c3 = 0 := by
    obtain ⟨A4, c4, e, h4, _, _⟩ := O3.shape2
    injection e with e1 _ e2
    subst e1 e2
    exact h4
  have hcsm : c3 ≤ 9223372036854775807 := O3.cap_le
  rw [bls_length] at hCc ⊢
  have hCn : ∀ ad, C = some ad → w2.heap.size ≤ ad.block := fun ad e => N3 _ (hC ad e)
  have hClt : ∀ ad, C = some ad → ad.block < w3.heap.size := fun ad e => O3.lt (hC ad e)
  have I0 : InR (w3.alloc (.cells #[.slice C (ofBytes l).length c3, .bool false] 50)) w3.heap.size C c3 (ofBytes l) false :=
    ⟨blk_new _ _, R3.no ((Fr.refl No w3).alloc _), hCc, hnil, fun ad e => by have := hClt ad e; omega, hcsm⟩
  have R0 := HR2.out.fr (F3.alloc (.cells #[.slice C (ofBytes l).length c3, .bool false] 50)) (fun k => k) (fun _ _ k => k)
  have G0 := (HG2.out.trans F3 (fun _ k => k.elim)).alloc (.cells #[.slice C (ofBytes l).length c3, .bool false] 50)
  have hCw : Hid (∀ ad, C = some ad → w.heap.size ≤ ad.block ∧ ad.block ≠ r ∧ ∀ ad2, B8 = some ad2 → ad.block ≠ ad2.block) := by
    show ∀ ad, _
    intro ad e
    have h1 := hCn ad e
    have h2 := hrg.out
    exact ⟨by omega, by omega, fun ad2 e2 => by have := hBg.out ad2 e2; omega⟩
  obtain ⟨g, hg⟩ : ∃ g, w3.heap.size = g := ⟨_, rfl⟩
  have hgr : Hid (w.heap.size ≤ g ∧ g ≠ r ∧ ∀ ad, B8 = some ad → ad.block ≠ g) := by
    show w.heap.size ≤ g ∧ g ≠ r ∧ ∀ ad, B8 = some ad → ad.block ≠ g
    have h1 := F3.size
    have h2 := hrg.out
    exact ⟨by omega, by omega, fun ad e => by have := hBg.out ad e; omega⟩
  rw [hg] at I0
  have HI0 := Lib.hid I0
  have HR0 := Lib.hid R0
  have HG0 := Lib.hid G0
  have HGQ := Lib.hid hg
  clear O3 N3 F3 R3 hnil hCc hCn hClt hC I0 R0 G0 HR2 HG2 HO hcsm
  go_wp2
  go_loopg [7] hs.length (fun gk i wr => ∃ (k at_ : Nat) (f : Bool) (b : List Bool) (C : Option Addr) (c : Nat), k + gk = hs.length ∧ i = .int .i64 (k : Int) ∧ Rr wr r B8 d8 l at_ f ∧ InR wr g C c b f ∧ Both l at_ f b ∧ Hid (∀ ad, C = some ad → w.heap.size ≤ ad.block ∧ ad.block ≠ r ∧ ∀ ad2, B8 = some ad2 → ad.block ≠ ad2.block) ∧ Fr No w wr)
  case atStart => exact ⟨0, 0, false, _, C, c3, by omega, rfl, HR0.out, HI0.out, by unfold Both; simp, hCw, HG0.out⟩
  case round =>
    clear HR0 HI0 HG0 hCw
    obtain ⟨k, at_, f, b, C, c, hk, rfl, R4, I4, B4, hCw, F4⟩ := hrel
    by_cases hkl : k < hs.length
    · obtain ⟨ad, rfl, c0⟩ := (HH.out.no F4).int hkl
      have hbd := HW.out (hs.getD k 0) (by rw [List.getD_eq_getElem?_getD, List.getElem?_eq_getElem hkl]; exact List.getElem_mem hkl)
      obtain ⟨h, hh⟩ : ∃ h, hs.getD k 0 = h := ⟨_, rfl⟩
      rw [hh] at c0 hbd
      have i1 : IntKind.i64.wrap h = h := by rw [IntKind.wrap_i64]; omega
      go_upto_if 37 with (fail)
      go_cut [7] (fun i wc => i = .int .i64 (k : Int) ∧ ∃ (at2 : Nat) (f2 : Bool) (b2 : List Bool) (C2 : Option Addr) (c2 : Nat), Rr wc r B8 d8 l at2 f2 ∧ InR wc g C2 c2 b2 f2 ∧ Both l at2 f2 b2 ∧ Hid (∀ ad, C2 = some ad → w.heap.size ≤ ad.block ∧ ad.block ≠ r ∧ ∀ ad2, B8 = some ad2 → ad.block ≠ ad2.block) ∧ Fr No w wc)
      case first =>
        by_cases h77 : h = 77
        · obtain ⟨s1, s2, s3⟩ := both_step B4 1
          have HA := Lib.hid (rflag_any R4)
          obtain ⟨G, hG⟩ : ∃ G, got l at_ f 1 = G := ⟨_, rfl⟩
          rw [hG] at HA s1
          have HI4 := Lib.hid I4
          have HF4 := Lib.hid F4
          have S1 := Lib.hid s1
          have S2 := Lib.hid s2
          have S3 := Lib.hid s3
          subst h77
          clear R4 I4 F4 s1 s2 s3 hG B4
          by_cases hG1 : G = 1
          · subst hG1
            go_wp2_with fail
            refine HA.out.mono ?_
            rintro e wa ⟨rfl, RA, FA⟩
            have IA := HI4.out.fr FA (fun e => hgr.out.2.1 e) (fun a e e2 => (hCw.out a e).2.1 e2)
            have HB := Lib.hid (inGet_any IA 1 (by omega))
            rw [show clamp 1 = 1 from rfl, S1.out, S2.out] at HB
            have HRA := Lib.hid RA
            have HFA := Lib.hid (HF4.out.trans FA (fun i hi => .inr (by rw [show i = r from hi]; exact hrg.out.1)))
            clear IA RA FA
            go_wp2_with fail
            refine HB.out.mono ?_
            rintro e wb ⟨rfl, ⟨A', c', IZ, AZ⟩, FB⟩
            have RZ := Lib.hid (HRA.out.fr FB (fun e => hgr.out.2.1 (Eq.symm e)) (fun a e e2 => hgr.out.2.2 a e e2))
            have GZ := Lib.hid (HFA.out.trans FB (fun i hi => .inr (by rw [show i = g from hi]; exact hgr.out.1)))
            have HIZ := Lib.hid IZ
            have HAZ := Lib.hid AZ
            clear IZ AZ FB
            go_wp2
            go_meet
            case rel =>
              refine ⟨rfl, _, _, _, _, _, RZ.out, HIZ.out, S3.out, ?_, GZ.out⟩
              show ∀ ad, _
              intro a e
              obtain ⟨ad', e3, e4⟩ := HAZ.out a e
              rw [e4]
              exact hCw.out ad' e3
          · have hG2 : ((G : Int) == 1) = false := by simp; omega
            have hG3 : decide (G = 1) = false := decide_eq_false hG1
            rw [hG3] at HA
            go_wp2_with fail
            refine HA.out.mono ?_
            rintro e wa ⟨rfl, RA, FA⟩
            have IA := HI4.out.fr FA (fun e => hgr.out.2.1 e) (fun a e e2 => (hCw.out a e).2.1 e2)
            have HB := Lib.hid (inGet_any IA 1 (by omega))
            rw [show clamp 1 = 1 from rfl, S1.out, S2.out] at HB
            have HRA := Lib.hid RA
            have HFA := Lib.hid (HF4.out.trans FA (fun i hi => .inr (by rw [show i = r from hi]; exact hrg.out.1)))
            clear IA RA FA
            go_wp2_with fail
            refine HB.out.mono ?_
            rintro e wb ⟨rfl, ⟨A', c', IZ, AZ⟩, FB⟩
            have RZ := Lib.hid (HRA.out.fr FB (fun e => hgr.out.2.1 (Eq.symm e)) (fun a e e2 => hgr.out.2.2 a e e2))
            have GZ := Lib.hid (HFA.out.trans FB (fun i hi => .inr (by rw [show i = g from hi]; exact hgr.out.1)))
            have HIZ := Lib.hid IZ
            have HAZ := Lib.hid AZ
            clear IZ AZ FB
            go_wp2
            go_meet
            case rel =>
              refine ⟨rfl, _, _, _, _, _, RZ.out, HIZ.out, S3.out, ?_, GZ.out⟩
              show ∀ ad, _
              intro a e
              obtain ⟨ad', e3, e4⟩ := HAZ.out a e
              rw [e4]
              exact hCw.out ad' e3
        · obtain ⟨m, hm⟩ : ∃ m, clamp h = m := ⟨_, rfl⟩
          obtain ⟨s1, s2, s3⟩ := both_step B4 m
          have HA : Hid (∀ W, Rr W r B8 d8 l at_ f → Calls Try.prog 18 #[.pointer (some ⟨r, 0, none⟩), .int .i64 h] W fun e w' => e = .returned (.int .u64 (got l at_ f m : Int)) ∧ Rr w' r B8 d8 l (nextAt l at_ f m) (f || over l at_ f m) ∧ Fr (RS r) W w') := by
            show ∀ W, _
            intro W HWr
            rw [← hm]
            exact get_any HWr h
          have HB : Hid (∀ W, InR W g C c b f → Calls Try.prog 22 #[.pointer (some ⟨g, 0, none⟩), .int .i64 h] W fun e w' => e = .returned (.int .u64 (got l at_ f m : Int)) ∧ (∃ A' c', InR w' g A' c' (rnext b f m) (f || over l at_ f m) ∧ ∀ a, A' = some a → ∃ ad, C = some ad ∧ a.block = ad.block) ∧ Fr (RS g) W w') := by
            show ∀ W, _
            intro W HWr
            rw [← s1, ← s2, ← hm]
            exact inGet_any HWr h (by omega)
          have HAI : Hid (∀ W W1 b' f' C' c', (∀ a, C' = some a → ∃ ad, C = some ad ∧ a.block = ad.block) → InR W g C' c' b' f' → Fr (RS r) W W1 → InR W1 g C' c' b' f') := by
            show ∀ W W1 b' f' C' c', _
            intro W W1 b' f' C' c' h1 h2 h3
            exact h2.fr h3 (fun e => hgr.out.2.1 e) (fun a e e2 => by
              obtain ⟨ad', e3, e4⟩ := h1 a e
              have := (hCw.out ad' e3).2.1
              exact this (by rw [← e4]; exact e2))
          have HBR : Hid (∀ W W1 at' f', Rr W r B8 d8 l at' f' → Fr (RS g) W W1 → Rr W1 r B8 d8 l at' f') := by
            show ∀ W W1 at' f', _
            intro W W1 at' f' h2 h3
            exact h2.fr h3 (fun e => hgr.out.2.1 (Eq.symm e)) (fun a e e2 => hgr.out.2.2 a e e2)
          have D4 := (Fr.refl No wr).drew
          have R5 := R4.fr D4 (fun k => k) (fun _ _ k => k)
          have I5 := I4.fr D4 (fun k => k) (fun _ _ k => k)
          have HR5 := Lib.hid R5
          have HI5 := Lib.hid I5
          have HF4 := Lib.hid (F4.trans D4 (fun _ k => k.elim))
          have S3 := Lib.hid s3
          have hadw : Hid (ad.block < w.heap.size) := by
            show ad.block < w.heap.size
            exact HH.out.lt (by rw [ints_length]; omega)
          have hRw : Hid (∀ W W1, Fr No w W → Fr (RS r) W W1 → Fr No w W1) := by
            show ∀ W W1, _
            exact fun W W1 h1 h2 => h1.trans h2 (fun i hi => .inr (by rw [show i = r from hi]; exact hrg.out.1))
          have hGw : Hid (∀ W W1, Fr No w W → Fr (RS g) W W1 → Fr No w W1) := by
            show ∀ W W1, _
            exact fun W W1 h1 h2 => h1.trans h2 (fun i hi => .inr (by rw [show i = g from hi]; exact hgr.out.1))
          have KC : Hid (∀ W, Fr No w W → W.cell? (ad.add k) = some (.int .i8 h)) := by
            show ∀ W, _
            intro W hW
            obtain ⟨ad', e, c1⟩ := (HH.out.no hW).int hkl
            cases e
            rw [hh] at c1
            exact c1
          clear hh hbd hm s1 s2 s3 R4 I4 B4 F4 R5 I5 D4
          go_wp2
          go_region_held3 (fun w' => w'.cell? (ad.add k) = some (.int .i8 h))
            (first | go_keep | exact KC.out _ (by assumption))
            (first
              | (go_at_call 18; refine (HA.out _ RB).mono ?_; rintro e wz ⟨rfl, RZ, FZ⟩; have IZ := HAI.out _ _ _ _ _ _ AB IB FZ; have GZ := hRw.out _ _ GB FZ; have AZ := AB)
              | (go_at_call 18; refine (HA.out _ HR5.out).mono ?_; rintro e wa ⟨rfl, RA, FA⟩; have IA := HAI.out _ _ _ _ _ _ (fun a e => ⟨a, e, rfl⟩) HI5.out FA; have GA := hRw.out _ _ HF4.out FA)
              | (go_at_call 22; refine (HB.out _ IA).mono ?_; rintro e wz ⟨rfl, ⟨C', c', IZ, AZ⟩, FZ⟩; have RZ := HBR.out _ _ _ _ RA FZ; have GZ := hGw.out _ _ GA FZ)
              | (go_at_call 22; refine (HB.out _ HI5.out).mono ?_; rintro e wb ⟨rfl, ⟨C', c', IB, AB⟩, FB⟩; have RB := HBR.out _ _ _ _ HR5.out FB; have GB := hGw.out _ _ HF4.out FB))
          all_goals
            go_wp2
            go_meet
            case rel =>
              refine ⟨rfl, _, _, _, _, _, RZ, IZ, S3.out, ?_, GZ⟩
              show ∀ ad, _
              intro a e
              obtain ⟨ad', e3, e4⟩ := AZ a e
              rw [e4]
              exact hCw.out ad' e3
      case rest =>
        obtain ⟨rfl, at2, f2, b2, C2, c2, R6, I6, B6, hC6, F6⟩ := hcut
        obtain ⟨o, ho⟩ : ∃ o, (!f2) = o := ⟨_, rfl⟩
        have hof : (o == f2) = false := by rw [← ho]; cases f2 <;> rfl
        obtain ⟨q, hq⟩ : ∃ q, ends l at2 f2 = q := ⟨_, rfl⟩
        have hl6 := both_left B6
        have he6 := both_end B6
        rw [hq] at he6
        obtain ⟨n, hn⟩ : ∃ n, b2.length = n := ⟨_, rfl⟩
        rw [hn] at hl6
        have hRR : ∀ W, Fr No wc W → Rr W r B8 d8 l at2 f2 := fun W h => R6.fr h (fun k => k) (fun _ _ k => k)
        have hII : ∀ W, Fr No wc W → InR W g C2 c2 b2 f2 := fun W h => I6.fr h (fun k => k) (fun _ _ k => k)
        have K0 : Hid (∀ W, Fr No wc W → W.cell? ⟨g, 0, none⟩ = some (.slice C2 n c2)) := by
          show ∀ W, _
          intro W h
          rw [blk_cell (hII W h).blk, ← hn]; rfl
        have K1 : Hid (∀ W, Fr No wc W → W.cell? ⟨g, 1, none⟩ = some (.bool f2)) := by
          show ∀ W, _
          intro W h
          rw [blk_cell (hII W h).blk]; rfl
        have C1 : Hid (∀ W, Fr No wc W → Calls Try.prog 23 #[.pointer (some ⟨r, 0, none⟩)] W fun e w' => e = .returned (.bool o) ∧ Fr No wc w') := by
          show ∀ W, _
          intro W h
          refine (ok_any (hRR W h)).mono ?_
          rintro e w' ⟨rfl, rfl⟩
          exact ⟨by rw [ho], h⟩
        have C2' : Hid (∀ W, Fr No wc W → Calls Try.prog 24 #[.pointer (some ⟨r, 0, none⟩)] W fun e w' => e = .returned (.int .i64 (n : Int)) ∧ Fr No wc w') := by
          show ∀ W, _
          intro W h
          refine (left_any (hRR W h)).mono ?_
          rintro e w' ⟨rfl, j, rfl⟩
          exact ⟨by rw [← hl6], h.drewN j⟩
        have C3 : Hid (∀ W, Fr No wc W → Calls Try.prog 19 #[.pointer (some ⟨r, 0, none⟩)] W fun e w' => e = .returned (.bool q) ∧ Fr No wc w') := by
          show ∀ W, _
          intro W h
          refine (rend_any (hRR W h)).mono ?_
          rintro e w' ⟨rfl, F⟩
          exact ⟨by rw [hq], h.trans F (fun _ k => k.elim)⟩
        have C4 : Hid (∀ W, Fr No wc W → Calls Try.prog 25 #[.pointer (some ⟨g, 0, none⟩)] W fun e w' => e = .returned (.bool q) ∧ Fr No wc w') := by
          show ∀ W, _
          intro W h
          refine (inEnd_any (hII W h)).mono ?_
          rintro e w' ⟨rfl, rfl⟩
          exact ⟨by rw [he6], h⟩
        have HRR := Lib.hid hRR
        have HII := Lib.hid hII
        have HB6 := Lib.hid B6
        have HFF : Hid (∀ W, Fr No wc W → Fr No w W) := by
          show ∀ W, _
          exact fun W h => F6.trans h (fun _ k => k.elim)
        have g0 := K0.out _ (Fr.refl No wc)
        have g1 := K1.out _ (Fr.refl No wc)
        have FD := (Fr.refl No wc).drew
        clear R4 I4 B4 F4 R6 I6 B6 F6 c0 hh hbd i1 hl6 he6 hn hRR hII ho hq hCw
        go_wp2
        go_region_held3 (fun w' => w'.cell? ⟨g, 0, none⟩ = some (.slice C2 n c2) ∧ w'.cell? ⟨g, 1, none⟩ = some (.bool f2))
          (first | go_keep | exact ⟨K0.out _ (by assumption), K1.out _ (by assumption)⟩)
          (first
            | (go_at_call 23; refine (C1.out _ ?_).mono ?_; assumption; rintro e wz ⟨rfl, FZ1⟩)
            | (go_at_call 24; refine (C2'.out _ ?_).mono ?_; assumption; rintro e wz ⟨rfl, FZ2⟩)
            | (go_at_call 19; refine (C3.out _ ?_).mono ?_; assumption; rintro e wz ⟨rfl, FZ3⟩)
            | (go_at_call 25; refine (C4.out _ ?_).mono ?_; assumption; rintro e wz ⟨rfl, FZ4⟩))
        all_goals
          go_wp2
          go_roundg (hs.length - (k + 1))
          case measure => omega
          case rel =>
            refine ⟨k + 1, at2, f2, b2, C2, c2, by omega, by go_num, HRR.out _ ?_, HII.out _ ?_, HB6.out, hC6, HFF.out _ ?_⟩
            all_goals assumption
    · go_wp2
      go_ret
      exact ⟨rfl, F4⟩
end Go.Proofs.Ytfkcpooljkpfpaa
