import Derived.Test.YtpbkbkbifidbpaaPlaysP
namespace Go.Proofs.Ytpbkbkbifidbpaa
open Go.RowKit Go
attribute [local go_sem] max2_int min2_int max_two min_two

/-- The whole state between two rounds. -/
structure Play (B wr : World) (g q pb : Nat) (vs : List Value) (hs : List (List UInt8)) (m j : Nat) (st : Int) : Prop where
  f : Filt wr g q (hs.map fun h => (hc h : Int)) st
  p : Past B wr g q pb vs hs
  fr : Fr No B wr
  n : hs.length = m
  h : ∀ k, k < m → (hs.getD k []).length = j
  q : B.heap.size ≤ q

theorem counts_getD (hs : List (List UInt8)) (k : Nat) (hk : k < hs.length) : (hs.map fun h => (hc h : Int)).getD k 0 = (hc (hs.getD k []) : Int) := by
  simp [List.getD_eq_getElem?_getD, List.getElem?_eq_getElem hk]
theorem counts_small (hs : List (List UInt8)) : Small (hs.map fun h => (hc h : Int)) := by
  intro j
  by_cases hj : j < hs.length
  · rw [counts_getD _ _ hj]; have := hc_le (hs.getD j []); omega
  · rw [List.getD_eq_getElem?_getD, List.getElem?_eq_none (by simpa using hj)]; simp
/-- The counts behind the step are those of the histories that have grown. -/
theorem counts_step (r : List UInt8) (hs : List (List UInt8)) : upd r (hs.map fun h => (hc h : Int)) hs.length = (ext r hs hs.length).map fun h => (hc h : Int) := by
  apply List.ext_getElem
  · simp [upd, ext]
  · intro i h1 h2
    have hi : i < hs.length := by simpa [ext] using h2
    have e : hs.getD i [] = hs[i] := by simp [List.getD_eq_getElem?_getD, List.getElem?_eq_getElem hi]
    simp only [upd, ext, List.getElem_map, List.getElem_range, List.length_map, hi, if_true]
    rw [counts_getD _ _ hi, nxt_bt, hc_snoc]

/-- Ahead of the first round. -/
theorem play_start {B wc : World} {g q m : Nat} {st : Int} (hF : Filt wc g q (List.replicate m 0) st) (hfr : Fr No B wc) (_hg : B.heap.size ≤ g) (hq : B.heap.size ≤ q) :
    Play B (wc.alloc (.cells (madeCells #[.slice none 0 0] m) 28)) g q wc.heap.size (List.replicate m (.slice none 0 0)) (List.replicate m []) m 0 st := by
  have hgl := blk_lt hF.1
  have hql := blk_lt hF.2.1
  have hs := hfr.size
  have nil : ∀ k, (List.replicate m (Value.slice none 0 0)).getD k undef = .slice none 0 0 ∨ (List.replicate m (Value.slice none 0 0)).getD k undef = undef := by
    intro k
    by_cases hk : k < m
    · exact .inl (by simp [List.getD_eq_getElem?_getD, hk])
    · exact .inr (by simp [List.getD_eq_getElem?_getD, hk])
  have noown : ∀ k b, ¬ ((List.replicate m (Value.slice none 0 0)).getD k undef).ownBlock = some b := by
    intro k b hb
    rcases nil k with e | e <;> rw [e] at hb <;> simp [Value.ownBlock, undef] at hb
  refine ⟨?_, ⟨?_, by simp, fun k hk => ?_, fun k b _ hb => absurd hb (noown k b), fun j k b _ _ _ hb => absurd hb (noown j b), by omega⟩, hfr.alloc _, by simp, fun k hk => ?_, hq⟩
  · have e : (List.replicate m ([] : List UInt8)).map (fun h => (hc h : Int)) = List.replicate m 0 := by rw [List.map_replicate]; rfl
    rw [e]
    exact hF.alloc _
  · have := blk_new wc (.cells (madeCells #[.slice none 0 0] m) 28)
    rwa [made_sl] at this ⊢
  · simp only [List.length_replicate] at hk
    have e1 : (List.replicate m (Value.slice none 0 0)).getD k undef = .slice none 0 0 := by simp [List.getD_eq_getElem?_getD, hk]
    have e2 : (List.replicate m ([] : List UInt8)).getD k [] = [] := by simp [List.getD_eq_getElem?_getD, hk]
    rw [e1, e2]
    exact Own.nil _ _
  · simp [List.getD_eq_getElem?_getD, hk]

/-- The state inside a round: what the step told lies apart. -/
structure Inner (B wr : World) (g q pb : Nat) (Av : Option Addr) (got : List Bool) (vs : List Value) (hs : List (List UInt8)) (cs : List Int) (st : Int) : Prop where
  f : Filt wr g q cs st
  p : Past B wr g q pb vs hs
  fr : Fr No B wr
  rv : Rd wr Av (bls got)
  vb : ∀ a, Av = some a → a.block < wr.heap.size ∧ a.block ≠ pb ∧ ∀ j, j < hs.length → (vs.getD j undef).ownBlock ≠ some a.block

theorem Inner.drewN {B wr : World} {g q pb : Nat} {Av : Option Addr} {got : List Bool} {vs : List Value} {hs : List (List UInt8)} {cs : List Int} {st : Int} (h : Inner B wr g q pb Av got vs hs cs st) (n : Nat) : Inner B (wr.drewN n) g q pb Av got vs hs cs st :=
  ⟨h.f.drewN n, h.p.drewN n, h.fr.drewN n, h.rv, h.vb⟩

theorem Inner.push {B wr w1 : World} {g q pb : Nat} {Av : Option Addr} {got : List Bool} {vs : List Value} {hs : List (List UInt8)} {cs : List Int} {st : Int} (h : Inner B wr g q pb Av got vs hs cs st) {k : Nat} (hk : k < hs.length) {v1 : Value} {h1 : List UInt8}
    (ho : Own w1 5 v1 (bys h1)) (hf : Fr (fun b => (vs.getD k undef).ownBlock = some b) wr w1) (hat : v1.ownBlock = (vs.getD k undef).ownBlock ∨ ∃ b, v1.ownBlock = some b ∧ wr.heap.size ≤ b) :
    Inner B (w1.setCell ⟨pb, k, none⟩ v1) g q pb Av got (vs.set k v1) (hs.set k h1) cs st := by
  have hgl := blk_lt h.f.1
  have hql := blk_lt h.f.2.1
  have fs : Fr (fun i => i = pb) w1 (w1.setCell ⟨pb, k, none⟩ v1) := (Fr.refl (fun i => i = pb) w1).setCell (p := ⟨pb, k, none⟩) (.inl rfl) _
  have hvl : k < vs.length := by rw [h.p.len]; exact hk
  have get : ∀ j, (vs.set k v1).getD j undef = if j = k then v1 else vs.getD j undef := by
    intro j
    rw [List.getD_eq_getElem?_getD, List.getElem?_set]
    by_cases e : k = j
    · subst e; simp [hvl]
    · rw [if_neg e, if_neg (Ne.symm e), List.getD_eq_getElem?_getD]
  refine ⟨?_, h.p.push hk h.fr.size hgl hql ho hf hat, ?_, ?_, ?_⟩
  · exact (h.f.fr hf (fun e => (h.p.new k g hk e).2.2.1 rfl) (fun e => (h.p.new k q hk e).2.2.2 rfl)).fr fs (fun e => h.p.pbn.2.1 e.symm) (fun e => h.p.pbn.2.2 e.symm)
  · exact (h.fr.trans hf (fun i hi => .inr (h.p.new k i hk hi).1)).trans fs (fun i hi => .inr (by rw [hi]; exact h.p.pbn.1))
  · exact (h.rv.fr hf (fun a ha e => (h.vb a ha).2.2 k hk e)).fr fs (fun a ha e => (h.vb a ha).2.1 e)
  · intro a ha
    obtain ⟨z1, z2, z3⟩ := h.vb a ha
    refine ⟨by have := hf.size; simp [World.setCell]; omega, z2, fun j hj => ?_⟩
    rw [List.length_set] at hj
    rw [get]
    by_cases e : j = k
    · rw [if_pos e]
      rcases hat with e2 | ⟨b, e2, hle⟩
      · rw [e2]; exact z3 k hk
      · rw [e2]
        intro e3
        cases e3
        omega
    · rw [if_neg e]; exact z3 j hj

set_option maxRecDepth 20000 in
set_option maxHeartbeats 4000000 in
theorem detectPlays_any (A : Option Addr) (cap : Nat) (l : BS) (n st : Int) (hn : -9223372036854775808 ≤ n ∧ n ≤ 9223372036854775807) (w : World) (hr : Rd w A (bss l))
    (hall : ∀ x ∈ l, Rd w x.1 (bys x.2.2)) :
    Calls Try.prog 3 #[.int .i64 n, .int .i64 st, .slice A l.length cap] w fun e w' => e = .returned (.bool true) ∧ Fr No w w' := by
  have HR := Lib.hid hr
  have HALL := Lib.hid hall
  have hl := hr.1
  rw [bss_length] at hl
  clear hr hall
  by_cases hbig : 60 < l.length
  · go_enter Try.func3, Try.ntmps3
    go_wp2_with fail
    refine (stays_any _).mono ?_
    rintro e w1 ⟨rfl, fr1⟩
    go_wp2_with fail
    refine (stays_any _).mono ?_
    rintro e w2 ⟨rfl, fr2⟩
    go_wp2
    go_ret
    exact ⟨rfl, fr1.trans fr2 (fun _ k => k.elim)⟩
  · obtain ⟨m, hm⟩ := Int.eq_ofNat_of_zero_le (show 0 ≤ min (max n 0) 16 by omega)
    have hm16 : m ≤ 16 := by omega
    have HM := Lib.hid hm
    have hmk := run_make_row' (P := Try.prog) 22 28 (.slice none 0 0) 24 Try.underlying22 infoSl rfl .i64 .i64 m (by omega) (by omega)
    clear hm
    go_enter Try.func3, Try.ntmps3
    go_wp2_with fail
    refine (stays_any _).mono ?_
    rintro e w1 ⟨rfl, fr1⟩
    go_wp2_with fail
    refine (new_any _ _ _).mono ?_
    rintro e w2 ⟨g, q, rfl, F2, hg, hq, fr2⟩
    rw [HM.out] at F2
    have F2' : Filt w2 g q (List.replicate m 0) (min (max st 0) 1000) := F2
    clear F2
    go_upto_if 26 with (fail)
    go_cut [0] (fun s wc => s = .int .i64 (max n 0) ∧ wc = w2)
    case first =>
      by_cases h0 : n < 0
      · have e : Hid (max n 0 = 0) := by show max n 0 = 0; omega
        go_wp2
        go_meet
        case rel => exact ⟨by rw [e.out], rfl⟩
      · have e : Hid (max n 0 = n) := by show max n 0 = n; omega
        go_wp2
        go_meet
        case rel => exact ⟨by rw [e.out], rfl⟩
    case rest =>
      obtain ⟨rfl, rfl⟩ := hcut
      go_upto_if 28 with (fail)
      go_cut [0] (fun s wx => s = .int .i64 m ∧ wx = wc)
      case first =>
        by_cases h0 : 16 < max n 0
        · have e : Hid (m = 16) := by show m = 16; have := HM.out; omega
          go_wp2
          go_meet
          case rel => exact ⟨by rw [e.out]; rfl, rfl⟩
        · have e : Hid (max n 0 = m) := by show max n 0 = m; have := HM.out; omega
          go_wp2
          go_meet
          case rel => exact ⟨by rw [e.out], rfl⟩
      case rest =>
        obtain ⟨rfl, rfl⟩ := hcut
        have P0 := play_start F2' (fr1.trans fr2 (fun _ k => k.elim)) (Nat.le_trans fr1.size hg) (Nat.le_trans fr1.size hq)
        go_wp2
        generalize hpb : wc.heap.size = pb at *
        go_loopg [9] l.length (fun k i wr => ∃ (j : Nat) (vs : List Value) (hs : List (List UInt8)), j + k = l.length ∧ i = .int .i64 j ∧ Play w wr g q pb vs hs m j (min (max st 0) 1000))
        case atStart => exact ⟨0, _, _, by omega, rfl, P0⟩
        case round =>
          obtain ⟨i, vs, hs, hi, rfl, P⟩ := hrel
          clear P0
          by_cases hil : i < l.length
          · obtain ⟨ad, rfl, hc0⟩ := (HR.out.no P.fr).bs hil
            have x3 := HALL.out _ (List.getElem_mem hil)
            obtain ⟨⟨B, cb, r⟩, hx⟩ : ∃ x, l[i] = x := ⟨_, rfl⟩
            rw [hx] at hc0 x3
            have HEQ := Lib.hid hx
            simp only at hc0 x3
            have X3 := Lib.hid x3
            clear hx x3
            have ne0 : ∀ a, B = some a → 0 < r.length → a.block ≠ q := by
              rintro a rfl h0 e
              have := X3.out.lt (by rw [bys_length]; exact h0)
              have := P.q
              omega
            have hst := step_any P.f (counts_small hs) B cb r (X3.out.no P.fr) ne0
            rw [List.length_map, counts_step] at hst
            have ST := Lib.hid hst
            have hgl := blk_lt P.f.1
            have hql := blk_lt P.f.2.1
            clear hst ne0
            go_wp2_with fail
            refine ST.out.mono ?_
            rintro e w4 ⟨v, rfl, o4, b4, F4, fr4⟩
            rw [P.n] at o4 F4
            have P4 : Past w w4 g q pb vs hs := P.p.fr fr4 P.p.pbn.2.2 (fun k b hk hb => (P.p.new k b hk hb).2.2.2)
            have f4 : Fr No w w4 := P.fr.trans fr4 (fun i hi => .inr (by have := P.q; omega))
            obtain ⟨Av, cv, rfl, _, hov, rv⟩ := o4.shape
            have o4lt : ∀ a, Av = some a → a.block < w4.heap.size := fun a ha => o4.lt (hov a ha)
            simp only [bls_length, told_length] at *
            have I0 : Inner w w4 g q pb Av (told r (List.map (fun h => (hc h : Int)) hs) (min (max st 0) 1000) m) vs (ext r hs 0) (List.map (fun h => (hc h : Int)) (ext r hs m)) (min (max st 0) 1000) := by
              refine ⟨F4, by rw [ext_zero]; exact P4, f4, rv, fun a ha => ?_⟩
              have z1 := b4 a.block (hov a ha)
              have z2 := blk_lt P.p.blk
              refine ⟨o4lt a ha, by omega, fun j hj e => ?_⟩
              rw [ext_length] at hj
              have := (P.p.own j hj).lt e
              omega
            have hnm := P.n
            have hpq := P.q
            have hhl := Lib.hid P.h
            clear rv o4 o4lt hov b4 fr4 f4 F4 P4 ST P F2' hc0
            go_wp2
            go_loopg [11, 12] m (fun kk i b wr => ∃ (k : Nat) (vs' : List Value), k + kk = m ∧ i = .int .i64 k ∧ Inner w wr g q pb Av (told r (List.map (fun h => (hc h : Int)) hs) (min (max st 0) 1000) m) vs' (ext r hs k) (List.map (fun h => (hc h : Int)) (ext r hs m)) (min (max st 0) 1000))
            case atStart => exact ⟨0, _, by omega, rfl, I0⟩
            case round =>
              obtain ⟨k, vs', hk, rfl, I⟩ := hrel
              clear I0
              by_cases hkm : k < m
              · have hkl : k < (ext r hs k).length := by rw [ext_length]; omega
                obtain ⟨ad', e0, hc5⟩ := (HR.out.no I.fr).bs hil
                cases e0
                rw [HEQ.out] at hc5
                go_upto_if 58 with (fail)
                go_cut [12] (fun b wc => b = .int .u8 ((bt r k).toNat : Int) ∧ wc = wr)
                case first =>
                  by_cases hkr : k < r.length
                  · obtain ⟨bd, b0, rfl, hcb, hb0⟩ := (X3.out.no I.fr).byte' hkr
                    have e : Hid (bt r k = b0) := by
                      show bt r k = b0
                      rw [← hb0.out]
                      unfold bt
                      rw [List.getD_eq_getElem?_getD, List.getD_eq_getElem?_getD, List.getElem?_eq_getElem hkr]
                      rfl
                    go_wp2
                    go_meet
                    case rel => exact ⟨by rw [e.out], rfl⟩
                  · have e : Hid (bt r k = 9) := by
                      show bt r k = 9
                      unfold bt
                      rw [List.getD_eq_getElem?_getD, List.getElem?_eq_none (by omega)]
                      rfl
                    go_wp2
                    go_meet
                    case rel => exact ⟨by rw [e.out]; rfl, rfl⟩
                case rest =>
                  obtain ⟨rfl, rfl⟩ := hcut
                  obtain ⟨ck, cf⟩ := I.p.cell hkl
                  have ok := I.p.own k hkl
                  obtain ⟨vk, hvk⟩ : ∃ vk, vs'.getD k undef = vk := ⟨_, rfl⟩
                  obtain ⟨hh, hhk⟩ : ∃ hh, (ext r hs k).getD k [] = hh := ⟨_, rfl⟩
                  rw [hvk] at ck ok
                  rw [hhk] at ok
                  have HVK := Lib.hid hvk
                  have hek : hh = hs.getD k [] := by rw [← hhk, ext_get _ _ _ _ (by omega), if_neg (by omega)]
                  have hlen : (bys hh).length ≤ 60 := by rw [hek, bys_length, hhl.out k hkm]; omega
                  have HHK := Lib.hid hhk
                  clear hvk hhk
                  have pbl := blk_lt I.p.blk
                  have HEK := Lib.hid hek
                  have HLN := Lib.hid hlen
                  clear hek hlen
                  go_wp2_with (at_builtin; go_loud (refine own_append rfl (.tmp 71) (.tmp 73) 28 5 (.int .u8 0) 1 rfl Try.underlying28 infoU8 rfl (by decide) vk (bys hh) (.int .u8 ((bt r k).toNat : Int)) _ rfl rfl rfl rfl ok ?hl ?_))
                  case hl => have := HLN.out; omega
                  intro v1 w1 o1 f1 a1
                  have e1 : bys hh ++ [.int .u8 ((bt r k).toNat : Int)] = bys (hh ++ [bt r k]) := by rw [bys_append]; rfl
                  rw [e1] at o1
                  rw [← HVK.out] at f1 a1
                  have I1 := I.push hkl o1 f1 a1
                  have e2 : (ext r hs k).set k (hh ++ [bt r k]) = ext r hs (k + 1) := by rw [← HHK.out]; exact ext_set _ _ _ (by omega)
                  rw [e2] at I1
                  obtain ⟨A1, c1, hv1, _, _, _⟩ := o1.shape
                  rw [show (bys (hh ++ [bt r k])).length = hh.length + 1 by simp [bys]] at hv1
                  subst hv1
                  have ne1 : ¬ some pb = (vs'.getD k undef).ownBlock := fun e => (I.p.new k pb hkl e.symm).2.1 rfl
                  have b1 := f1.heap I.p.blk (fun e => ne1 e.symm)
                  have d1 : w1.cell? ⟨pb, k, none⟩ = some vk := by
                    rw [blk_cell b1, ← HVK.out]
                    have : k < vs'.length := by rw [I.p.len]; exact hkl
                    simp [List.getD_eq_getElem?_getD, List.getElem?_eq_getElem this]
                  have d2 : w1.frozen? ⟨pb, k, none⟩ = false := blk_free b1 k
                  have hlk := hhl.out k hkm
                  clear o1 f1 a1 e1 e2 ok ck cf ne1 b1 I
                  go_upto_region 22 with (fail)
                  generalize w1.setCell ⟨pb, k, none⟩ (.slice A1 (hh.length + 1) c1) = w5 at *
                  clear d1 d2
                  have hkl1 : k < (ext r hs (k + 1)).length := by rw [ext_length]; omega
                  have c5 := (I1.p.cell hkl1).1
                  have hvl : k < vs'.length := by have := I1.p.len; rw [List.length_set] at this; omega
                  have hget : (vs'.set k (.slice A1 (hh.length + 1) c1)).getD k undef = .slice A1 (hh.length + 1) c1 := by simp [List.getD_eq_getElem?_getD, hvl]
                  have hget2 : (ext r hs (k + 1)).getD k [] = hh ++ [bt r k] := by rw [ext_get _ _ _ _ (by omega), if_pos (by omega), HEK.out]
                  have ok := I1.p.own k hkl1
                  rw [hget] at c5 ok
                  rw [hget2] at ok
                  have rk : Rd w5 A1 (bys (hh ++ [bt r k])) := by
                    obtain ⟨A2, c2, e, _, _, h2⟩ := ok.shape
                    rw [show (bys (hh ++ [bt r k])).length = hh.length + 1 by simp [bys]] at e
                    cases e
                    exact h2
                  have RC := rclear_any A1 c1 (hh ++ [bt r k]) st w5 rk
                  have RN := rcount_any A1 c1 (hh ++ [bt r k]) w5 rk
                  rw [show (hh ++ [bt r k]).length = hh.length + 1 by simp] at RC RN
                  have ehc : back (hh ++ [bt r k]) (hh.length + 1) 0 = hc (hh ++ [bt r k]) := by unfold hc; simp
                  rw [ehc] at RC RN
                  have eg : (told r (List.map (fun h => (hc h : Int)) hs) (min (max st 0) 1000) m).getD k false = decide (min (max st 0) 1000 < (hc (hh ++ [bt r k]) : Int)) := by
                    rw [told_getD hkm, counts_getD _ _ (by omega), nxt_bt, ← hc_snoc, HEK.out]
                  have ecn : cnt (List.map (fun h => (hc h : Int)) (ext r hs m)) (k : Int) = (hc (hh ++ [bt r k]) : Int) := by
                    rw [cnt_nat, counts_getD _ _ (by rw [ext_length]; omega), ext_get _ _ _ _ (by omega), if_pos hkm, HEK.out]
                  obtain ⟨gd, eA, cg⟩ := I1.rv.bool (j := k) (by rw [told_length]; exact hkm)
                  rw [eg] at cg
                  have CL := Lib.hid (fun y => clear_any (I1.f.drewN y) (k : Int))
                  have CN := Lib.hid (fun y => count_q I1.f (k : Int) y)
                  rw [ecn] at CL CN
                  have RN2 : ∀ y, Calls Try.prog 14 #[.slice A1 (hh.length + 1) c1] (w5.drewN y) fun e w' => e = .returned (.int .i64 (hc (hh ++ [bt r k]) : Nat)) ∧ w' = w5.drewN y := by
                    intro y
                    have := rcount_any A1 c1 (hh ++ [bt r k]) (w5.drewN y) rk
                    rw [show (hh ++ [bt r k]).length = hh.length + 1 by simp, ehc] at this
                    exact this.mono fun _ _ ⟨a, b⟩ => ⟨a, b.symm⟩
                  have RC' := Lib.hid RC
                  have RN' := Lib.hid RN2
                  generalize hbw : decide (min (max st 0) 1000 < (hc (hh ++ [bt r k]) : Int)) = bw at *
                  generalize hc (hh ++ [bt r k]) = hcv at *
                  have hbb : (bw != bw) = false := by simp
                  have hbb' : (bw == bw) = true := by simp
                  have hcc : ((hcv : Int) != (hcv : Int)) = false := by simp
                  have hcc' : ((hcv : Int) == (hcv : Int)) = true := by simp
                  have i0 : (0 : Int) ≤ (k : Int) := by omega
                  have i4 : (k : Int) < (m : Int) := by omega
                  have EA := Lib.hid eA
                  clear RC RN RN2 eg ecn ehc hget hget2 ok rk hbw eA
                  go_wp2_with fail
                  refine RC'.out.mono ?_
                  rintro e w' ⟨rfl, rfl⟩
                  rw [EA.out]
                  go_wp2
                  go_quiet (first | (go_at_call 12; exact Calls.quiet_of (CL.out _)) | (go_at_call 13; exact Calls.quiet_of_same (CN.out _)) | (go_at_call 14; exact Calls.quiet_of_same (RN'.out _)))
                  go_wp2
                  rw [← EA.out]
                  go_roundg (m - (k + 1))
                  case measure => omega
                  case rel => exact ⟨k + 1, _, by omega, by go_num, I1.drewN _⟩
              · have hkm' : k = m := by omega
                subst hkm'
                have hlm : (List.map (fun h => (hc h : Int)) (ext r hs k)).length = k := by simp [ext_length, hnm]
                have hlx : (ext r hs k).length = k := by rw [ext_length, hnm]
                have z0 : decide (min (max st 0) 1000 < (0 : Int)) = false := by simp; omega
                have e1 : cnt (List.map (fun h => (hc h : Int)) (ext r hs k)) (k : Int) = 0 := cnt_out (by omega)
                have e2 : cnt (List.map (fun h => (hc h : Int)) (ext r hs k)) (-1 : Int) = 0 := cnt_neg (by omega)
                have C1 : ∀ y, Calls Try.prog 12 #[.pointer (some ⟨g, 0, none⟩), .int .i64 k] (wr.drewN y) fun e w' => e = .returned (.bool false) ∧ ∃ n, w' = (wr.drewN y).drewN n := by
                  intro y
                  have := clear_any (I.f.drewN y) (k : Int)
                  rwa [e1, z0] at this
                have C2 : ∀ y, Calls Try.prog 12 #[.pointer (some ⟨g, 0, none⟩), .int .i64 (-1)] (wr.drewN y) fun e w' => e = .returned (.bool false) ∧ ∃ n, w' = (wr.drewN y).drewN n := by
                  intro y
                  have := clear_any (I.f.drewN y) (-1 : Int)
                  rwa [e2, z0] at this
                have N1 : ∀ y, Calls Try.prog 13 #[.pointer (some ⟨g, 0, none⟩), .int .i64 k] (wr.drewN y) fun e w' => e = .returned (.int .i64 0) ∧ w' = wr.drewN y := by
                  intro y
                  have := count_q I.f (k : Int) y
                  rwa [e1] at this
                have N2 : ∀ y, Calls Try.prog 13 #[.pointer (some ⟨g, 0, none⟩), .int .i64 (-1)] (wr.drewN y) fun e w' => e = .returned (.int .i64 0) ∧ w' = wr.drewN y := by
                  intro y
                  have := count_q I.f (-1 : Int) y
                  rwa [e2] at this
                have D1 := Lib.hid C1
                have D2 := Lib.hid C2
                have D3 := Lib.hid N1
                have D4 := Lib.hid N2
                clear C1 C2 N1 N2 e1 e2 z0 hlm
                go_wp2_with fail
                refine (D1.out 0).mono ?_
                rintro e w' ⟨rfl, y1, rfl⟩
                go_wp2_with fail
                refine (D2.out _).mono ?_
                rintro e w' ⟨rfl, y2, rfl⟩
                go_wp2_with fail
                refine (D3.out _).mono ?_
                rintro e w' ⟨rfl, rfl⟩
                go_wp2_with fail
                refine (D4.out _).mono ?_
                rintro e w' ⟨rfl, rfl⟩
                go_wp2
                go_roundg (l.length - (i + 1))
                case measure => omega
                case rel =>
                  refine ⟨i + 1, vs', ext r hs k, by omega, by go_num, (I.f.drewN _), (I.p.drewN _), (I.fr.drewN _), hlx, ?_, hpq⟩
                  intro j hj
                  rw [ext_get _ _ _ _ (by omega), if_pos hj]
                  rw [List.length_append, hhl.out j hj]
                  rfl
          · go_wp2
            go_ret
            exact ⟨rfl, P.fr⟩
end Go.Proofs.Ytpbkbkbifidbpaa
