import Derived.Test.YtpbkbkbifidbpaaNil
import Derived.Test.YtpbkbkbifidbpaaJoin
import Derived.Test.YtpbkbkbifidbpaaOpn
import Derived.Deep.DeepCutAuto
namespace Go.Proofs.Ytpbkbkbifidbpaa
open Go.RowKit Go
attribute [local go_sem] max2_int min2_int max_two min_two

/-- Two filters' counts agree but for part k. -/
def Alike (k : Nat) (cs ds : List Int) : Prop := cs.length = 4 ∧ ds.length = 4 ∧ Small cs ∧ Small ds ∧ ∀ j, j < 4 → j ≠ k → cs.getD j 0 = ds.getD j 0
theorem upd_small {r : List UInt8} {cs : List Int} {k : Nat} (h : Small cs) : Small (upd r cs k) := by
  intro j
  by_cases hj : j < cs.length
  · rw [upd_get _ _ _ _ hj]
    split
    · exact nxt_small r j (h j)
    · exact h j
  · have : (upd r cs k).getD j 0 = 0 := by rw [List.getD_eq_getElem?_getD, List.getElem?_eq_none (by rw [upd_length]; omega)]; rfl
    omega
theorem told_getD {r : List UInt8} {cs : List Int} {stay : Int} {k j : Nat} (h : j < k) : (told r cs stay k).getD j false = decide (stay < nxt r j (cs.getD j 0)) := by
  simp [told, List.getD_eq_getElem?_getD, h]
theorem Alike.step {k : Nat} {cs ds : List Int} (h : Alike k cs ds) {r x : List UInt8} (hx : ∀ j, j < 4 → j ≠ k → r[j]? = x[j]?) : Alike k (upd r cs 4) (upd x ds 4) := by
  obtain ⟨h1, h2, h3, h4, h5⟩ := h
  refine ⟨by rw [upd_length, h1], by rw [upd_length, h2], upd_small h3, upd_small h4, fun j hj hk => ?_⟩
  rw [upd_get _ _ _ _ (by omega), upd_get _ _ _ _ (by omega), if_pos hj, if_pos hj, h5 j hj hk]
  unfold nxt
  rw [hx j hj hk]
theorem Alike.told {k : Nat} {cs ds : List Int} (h : Alike k cs ds) {r x : List UInt8} (hx : ∀ j, j < 4 → j ≠ k → r[j]? = x[j]?) (stay : Int) (j : Nat) (hj : j < 4) (hk : j ≠ k) :
    (Proofs.Ytpbkbkbifidbpaa.told r cs stay 4).getD j false = (Proofs.Ytpbkbkbifidbpaa.told x ds stay 4).getD j false := by
  obtain ⟨_, _, _, _, h5⟩ := h
  rw [told_getD hj, told_getD hj, h5 j hj hk]
  unfold nxt
  rw [hx j hj hk]

/-- Both filters, apart from each other. -/
structure Two (w wr : World) (g q g' q' : Nat) (cs ds : List Int) (st : Int) : Prop where
  f : Filt wr g q cs st
  f' : Filt wr g' q' ds st
  fr : Fr No w wr
  new : w.heap.size ≤ g ∧ w.heap.size ≤ q ∧ w.heap.size ≤ g' ∧ w.heap.size ≤ q'
  ne : g ≠ q' ∧ q ≠ g' ∧ q ≠ q'

set_option maxRecDepth 20000 in
set_option maxHeartbeats 4000000 in
/-- The inner loop's round and what stands behind it, as one piece: see detectApart_any. -/
theorem detectApart_any (A D : Option Addr) (cap capd : Nat) (l : BS) (b : List UInt8) (m n : Nat) (hn : n < 256) (hm : m < 256) (w : World) (hr : Rd w A (bss l)) (_hcap : l.length ≤ cap)
    (hall : ∀ x ∈ l, x.2.2.length ≤ x.2.1 ∧ (x.1 = none → x.2.1 = 0) ∧ Rd w x.1 (bys x.2.2) ∧ x.2.2.length ≤ 140737488351232) (hb : Rd w D (bys b)) :
    Calls Try.prog 7 #[.slice A l.length cap, .int .u8 m, .int .u8 n, .slice D b.length capd] w fun e w' => e = .returned (.bool true) ∧ Fr No w w' := by
  have HR := Lib.hid hr
  have HALL := Lib.hid hall
  have HB := Lib.hid hb
  have hl := hr.1
  rw [bss_length] at hl
  have hbl := hb.1
  rw [bys_length] at hbl
  clear hr hall hb
  by_cases hbig : 40 < l.length
  · go_enter Try.func7, Try.ntmps7
    go_wp2_with fail
    refine (stays_any _).mono ?_
    rintro e w1 ⟨rfl, fr1⟩
    go_wp2_with fail
    refine (stays_any _).mono ?_
    rintro e w2 ⟨rfl, fr2⟩
    go_wp2
    go_ret
    exact ⟨rfl, fr1.trans fr2 (fun _ k => k.elim)⟩
  · have HST := Lib.hid (show min (max ((n : Int) % 8) 0) 1000 = (n : Int) % 8 by omega)
    have hm4 : m % 4 < 4 := by omega
    go_enter Try.func7, Try.ntmps7
    go_wp2_with fail
    refine (stays_any _).mono ?_
    rintro e w1 ⟨rfl, fr1⟩
    go_wp2_with fail
    refine (new_any 4 _ _).mono ?_
    rintro e w2 ⟨g, q, rfl, F2, hg, hq, fr2⟩
    go_wp2_with fail
    refine (new_any 4 _ _).mono ?_
    rintro e w3 ⟨g', q', rfl, F3, hg', hq', fr3⟩
    rw [HST.out] at F2 F3
    have T0 : Two w w3 g q g' q' [0, 0, 0, 0] [0, 0, 0, 0] ((n : Int) % 8) := by
      have a1 := fr1.size
      have a2 := fr2.size
      have b1 := blk_lt F2.1
      have b2 := blk_lt F2.2.1
      exact ⟨F2.fr fr3 (fun k => k) (fun k => k), F3, (fr1.trans fr2 (fun _ k => k.elim)).trans fr3 (fun _ k => k.elim), by omega, by omega⟩
    have A0 : Alike (m % 4) [0, 0, 0, 0] [0, 0, 0, 0] := by
      refine ⟨rfl, rfl, ?_, ?_, fun _ _ _ => rfl⟩
      all_goals
        intro j
        match j with
        | 0 => decide
        | 1 => decide
        | 2 => decide
        | 3 => decide
        | j + 4 => simp
    clear F2 F3 hg hq hg' hq' fr2 fr3
    go_wp2
    go_loopg [12] l.length (fun k i wr => ∃ (j : Nat) (cs ds : List Int), j + k = l.length ∧ i = .int .i64 j ∧ Alike (m % 4) cs ds ∧ Two w wr g q g' q' cs ds ((n : Int) % 8))
    case atStart => exact ⟨0, _, _, by omega, rfl, A0, T0⟩
    case round =>
      obtain ⟨i, cs, ds, hi, rfl, AL, T⟩ := hrel
      clear T0 A0
      by_cases hil : i < l.length
      · obtain ⟨ad, rfl, hc⟩ := (HR.out.no T.fr).bs hil
        obtain ⟨x1, x2, x3, x4⟩ := HALL.out _ (List.getElem_mem hil)
        obtain ⟨⟨B, cb, r⟩, hx⟩ : ∃ x, l[i] = x := ⟨_, rfl⟩
        rw [hx] at hc x1 x2 x3 x4
        have HEQ := Lib.hid hx
        clear hx
        simp only at hc x1 x2 x3 x4
        have X2 := Lib.hid x2
        have X3 := Lib.hid x3
        clear x2 x3
        by_cases hr4 : r.length < 4
        · go_wp2
          go_roundg (l.length - (i + 1))
          case measure => omega
          case rel => exact ⟨i + 1, cs, ds, by omega, by go_num, AL, T⟩
        · have ne0 : ∀ a, B = some a → a.block ≠ q := by
            rintro a rfl
            have := X3.out.lt (by rw [bys_length]; omega)
            have := T.new
            omega
          have NE := Lib.hid ne0
          clear ne0
          go_wp2_with fail
          refine (join_any (m := []) (X3.out.no T.fr) (Rd.nil wr none) X2.out (fun _ => rfl) (by simp; omega)).mono ?_
          rintro e w4 ⟨vx, rfl, ox, bx, fr4⟩
          rw [List.append_nil] at ox
          clear x1 x4 hc
          have T4 : Two w w4 g q g' q' cs ds ((n : Int) % 8) := ⟨T.f.fr fr4 (fun k => k) (fun k => k), T.f'.fr fr4 (fun k => k) (fun k => k), T.fr.trans fr4 (fun _ k => k.elim), T.new, T.ne⟩
          have hrl : 0 < (bys r).length := by rw [bys_length]; omega
          obtain ⟨gx, cx, rfl, x5, x6, x7, x8, x9, x10, x11⟩ := ox.form hrl
          simp only [bys_length] at *
          have bxx := bx.out gx rfl
          have hgx : gx ≠ g ∧ gx ≠ q ∧ gx ≠ g' ∧ gx ≠ q' ∧ w.heap.size ≤ gx := by
            have z1 := blk_lt T.f.1
            have z2 := blk_lt T.f.2.1
            have z3 := blk_lt T.f'.1
            have z4 := blk_lt T.f'.2.1
            have z5 := T.fr.size
            omega
          have GX := Lib.hid hgx
          go_upto_if 56 with (fail)
          go_cut [] (fun w5 => ∃ x : List UInt8, Hid (x.length = r.length ∧ (∀ j, j < 4 → j ≠ m % 4 → r[j]? = x[j]?)) ∧ Own w5 5 (.slice (some ⟨gx, 0, none⟩) r.length cx) (bys x) ∧ Two w w5 g q g' q' cs ds ((n : Int) % 8))
          case first =>
            by_cases hib : i < b.length
            · obtain ⟨bd, b0, rfl, hcb, _⟩ := (HB.out.no T4.fr).byte' hib
              have x12 := x9 (m % 4)
              have x14 := x11 (m % 4) (.int .u8 (b0.toNat : Int)) (by omega)
              have x13 := x10 (m % 4) (by omega)
              rw [bys_set] at x14
              have fr5 : Fr (fun k => k = gx) w4 (w4.setCell ⟨gx, m % 4, none⟩ (.int .u8 (b0.toNat : Int))) := (Fr.refl (fun k => k = gx) w4).setCell (p := ⟨gx, m % 4, none⟩) (.inl rfl) _
              have T5 : Two w (w4.setCell ⟨gx, m % 4, none⟩ (.int .u8 (b0.toNat : Int))) g q g' q' cs ds ((n : Int) % 8) := ⟨T4.f.fr fr5 (by omega) (by omega), T4.f'.fr fr5 (by omega) (by omega), T4.fr.trans fr5 (fun i hi => .inr (by omega)), T4.new, T4.ne⟩
              have hxr : ∀ j, j < 4 → j ≠ m % 4 → r[j]? = (r.set (m % 4) b0)[j]? := fun j _ hj => by rw [List.getElem?_set_ne (Ne.symm hj)]
              have HX := Lib.hid (And.intro (show (r.set (m % 4) b0).length = r.length by simp) hxr)
              clear x9 x10 x11 hxr
              go_wp2
              go_meet
              case rel => exact ⟨_, HX, x14, T5⟩
            · clear x9 x10 x11
              go_wp2
              go_meet
              case rel => exact ⟨r, And.intro rfl (fun _ _ _ => rfl), ox, T4⟩
          case rest =>
            obtain ⟨x, HX, ox5, T5⟩ := hcut
            clear x8 x9 x10 x11 ox T4 T bx
            obtain ⟨ad', e0, hc5⟩ := (HR.out.no T5.fr).bs hil
            cases e0
            rw [HEQ.out] at hc5
            have hx1 := HX.out.1
            have ox6 := ox5.shape
            go_wp2_with fail
            refine (step_any T5.f AL.2.2.1 B cb r (X3.out.no T5.fr) ?hneB).mono ?_
            case hneB => exact NE.out
            rintro e w6 ⟨vp, rfl, op, bp, f6, fr6⟩
            rw [AL.1] at op f6
            have T6 : Two w w6 g q g' q' (upd r cs 4) ds ((n : Int) % 8) := ⟨f6, T5.f'.fr fr6 (fun e => T5.ne.2.1 e.symm) (fun e => T5.ne.2.2 e.symm), T5.fr.trans fr6 (fun i hi => .inr (by have := T5.new; omega)), T5.new, T5.ne⟩
            obtain ⟨Ax, cx', ex, _, _, rx⟩ := (ox5.fr fr6 (fun k hk e => GX.out.2.1 (by simp only [Value.ownBlock, Option.some.injEq] at hk; rw [hk]; exact e))).shape
            rw [bys_length, hx1] at ex
            cases ex
            have S2 := step_any T6.f' AL.2.2.2.1 (some ⟨gx, 0, none⟩) cx x rx (fun a e => by cases e; exact GX.out.2.2.2.1)
            rw [hx1, AL.2.1] at S2
            have HX1 := Lib.hid hx1
            have HS2 := Lib.hid S2
            have q6 := blk_lt T6.f'.2.1
            have q5 := T5.new
            clear S2 hx1 f6 ox5 rx
            go_wp2_with fail
            refine HS2.out.mono ?_
            rintro e w7 ⟨vq, rfl, oq, bq, f7, fr7⟩
            have bpq : ∀ k, vp.ownBlock = some k → ¬ k = q' := fun k hk e => by
              have h1 := bp k hk
              have h2 := blk_lt T5.f'.2.1
              omega
            have op7 := op.fr fr7 bpq
            have T7 : Two w w7 g q g' q' (upd r cs 4) (upd x ds 4) ((n : Int) % 8) := ⟨T6.f.fr fr7 (fun e => T5.ne.1 e) (fun e => T5.ne.2.2 e), f7, T6.fr.trans fr7 (fun i hi => .inr (by omega)), T5.new, T5.ne⟩
            have A7 := AL.step HX.out.2
            obtain ⟨Ap, cp, rfl, _, _, rp⟩ := op7.shape
            obtain ⟨Aq, cq, rfl, _, _, rq⟩ := oq.shape
            simp only [bls_length, told_length] at *
            have RP := Lib.hid rp
            have RQ := Lib.hid rq
            have AT := Lib.hid (fun j hj hk => AL.told HX.out.2 ((n : Int) % 8) j hj hk)
            clear op op7 oq bp bq bpq rp rq fr6 fr7 f7 T6 T5 HS2 hc5 ox6
            go_wp2
            go_loopg [16] 4 (fun k i wr => ∃ (j : Nat), j + k = 4 ∧ i = .int .i64 j ∧ Hid (∃ z, wr = w7.drewN z))
            case atStart => exact ⟨0, by omega, rfl, 0, rfl⟩
            case round =>
              obtain ⟨j, hj, rfl, hz⟩ := hrel
              have T8 : Two w wr g q g' q' (upd r cs 4) (upd x ds 4) ((n : Int) % 8) := by
                obtain ⟨z, rfl⟩ := hz.out
                exact ⟨T7.f.drewN z, T7.f'.drewN z, T7.fr.drewN z, T7.new, T7.ne⟩
              have RP8 : Hid (Rd wr Ap (bls (told r cs ((n : Int) % 8) 4))) := by
                obtain ⟨z, rfl⟩ := hz.out
                exact RP.out
              have RQ8 : Hid (Rd wr Aq (bls (told x ds ((n : Int) % 8) 4))) := by
                obtain ⟨z, rfl⟩ := hz.out
                exact RQ.out
              by_cases hj4 : j < 4
              · by_cases hjm : j = m % 4
                · have hne : ((j : Int) != (m : Int) % 4) = false := by simp; omega
                  have hne' : ((j : Int) == (m : Int) % 4) = true := by simp; omega
                  go_wp2
                  go_quiet (fail)
                  go_wp2
                  go_roundg (4 - (j + 1))
                  case measure => omega
                  case rel => exact ⟨j + 1, by omega, by go_num, by obtain ⟨z, rfl⟩ := hz.out; exact ⟨_, World.drewN_drewN ..⟩⟩
                · have hne : ((j : Int) != (m : Int) % 4) = true := by simp; omega
                  have hne' : ((j : Int) == (m : Int) % 4) = false := by simp; omega
                  obtain ⟨pd, rfl, hcp⟩ := RP8.out.bool (j := j) (by rw [told_length]; exact hj4)
                  obtain ⟨qd, rfl, hcq⟩ := RQ8.out.bool (j := j) (by rw [told_length]; exact hj4)
                  rw [AT.out j hj4 hjm] at hcp
                  have hcnt : cnt (upd r cs 4) j = cnt (upd x ds 4) j := by rw [cnt_nat, cnt_nat]; exact A7.2.2.2.2 j hj4 hjm
                  generalize (told x ds ((n : Int) % 8) 4).getD j false = bv at *
                  have C1 := Lib.hid (fun y => count_q T8.f (j : Int) y)
                  have C2 := Lib.hid (fun y => count_q T8.f' (j : Int) y)
                  rw [hcnt] at C1
                  have i0 : (0 : Int) ≤ (j : Int) := by omega
                  have i4 : (j : Int) < 4 := by omega
                  generalize cnt (upd x ds 4) (j : Int) = cv at *
                  clear hcnt AT
                  have hbb : (bv != bv) = false := by simp
                  have hbb' : (bv == bv) = true := by simp
                  have hcc : (cv != cv) = false := by simp
                  have hcc' : (cv == cv) = true := by simp
                  go_wp2
                  go_quiet ((go_at_call 13; first | (with_reducible exact Calls.quiet_of_same (C1.out _)) | (with_reducible exact Calls.quiet_of_same (C2.out _))))
                  go_wp2
                  go_roundg (4 - (j + 1))
                  case measure => omega
                  case rel => exact ⟨j + 1, by omega, by go_num, by obtain ⟨z, rfl⟩ := hz.out; exact ⟨_, World.drewN_drewN ..⟩⟩
              · go_wp2
                go_roundg (l.length - (i + 1))
                case measure => omega
                case rel => exact ⟨i + 1, _, _, by omega, by go_num, A7, T8⟩
      · go_wp2
        go_ret
        exact ⟨rfl, T.fr⟩
end Go.Proofs.Ytpbkbkbifidbpaa
