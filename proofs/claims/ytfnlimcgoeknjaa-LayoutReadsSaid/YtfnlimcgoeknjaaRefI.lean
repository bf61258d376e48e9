import Derived.Test.YtfnlimcgoeknjaaRefO
namespace Go.Proofs.Ytfnlimcgoeknjaa
open Go.RowKit Go

/-- The document's reader at block g: the bits that are left. -/
structure InR (w : World) (g : Nat) (A : Option Addr) (c : Nat) (b : List Bool) (fail : Bool) : Prop where
  blk : w.heap[g]? = some (.cells #[.slice A b.length c, .bool fail] 104 (0, 0))
  rd : Rd w A (bls b)
  cap : b.length ≤ c
  nil : A = none → c = 0
  ne : ∀ ad, A = some ad → ad.block ≠ g
  small : c ≤ 9223372036854775807
theorem InR.fr {S : Nat → Prop} {w w1 : World} {g : Nat} {A : Option Addr} {c : Nat} {b : List Bool} {fail : Bool} (h : InR w g A c b fail) (hf : Fr S w w1) (hg : ¬ S g) (hA : ∀ ad, A = some ad → ¬ S ad.block) : InR w1 g A c b fail :=
  ⟨hf.heap h.blk hg, h.rd.fr hf hA, h.cap, h.nil, h.ne, h.small⟩
def rover (b : List Bool) (fail : Bool) (m : Nat) : Bool := fail || decide (b.length < m)
def rgot (b : List Bool) (fail : Bool) (m : Nat) : Nat := if rover b fail m = true then 0 else num (bitAt b) 0 m
def rnext (b : List Bool) (fail : Bool) (m : Nat) : List Bool := if rover b fail m = true then [] else b.drop m

set_option maxRecDepth 20000 in
set_option maxHeartbeats 4000000 in
theorem inGet_any {w : World} {g : Nat} {A : Option Addr} {c : Nat} {b : List Bool} {fail : Bool} (h : InR w g A c b fail) (width : Int) (hwd : -9223372036854775808 ≤ width ∧ width ≤ 9223372036854775807) :
    Calls Try.prog 62 #[.pointer (some ⟨g, 0, none⟩), .int .i64 width] w fun e w' => e = .returned (.int .u64 (rgot b fail (clamp width))) ∧ (∃ A' c', InR w' g A' c' (rnext b fail (clamp width)) (rover b fail (clamp width)) ∧ ∀ a, A' = some a → ∃ ad, A = some ad ∧ a.block = ad.block) ∧ Fr (RS g) w w' := by
  have H := Lib.hid h
  obtain ⟨m, hm⟩ : ∃ m, clamp width = m := ⟨_, rfl⟩
  have hm64 : m ≤ 64 := by rw [← hm]; exact clamp_le _
  have hmi : min (max width 0) 64 = (m : Int) := by rw [← hm, clamp_int]
  rw [hm]
  have c0 : w.cell? ⟨g, 0, none⟩ = some (.slice A b.length c) := by rw [blk_cell h.blk]; rfl
  have c1 : w.cell? ⟨g, 1, none⟩ = some (.bool fail) := by rw [blk_cell h.blk]; rfl
  have f0 : w.frozen? ⟨g, 0, none⟩ = false := blk_free h.blk 0
  have f1 : w.frozen? ⟨g, 1, none⟩ = false := blk_free h.blk 1
  clear h hm
  go_enter Try.func62, Try.ntmps62
  go_upto_if 8 with (fail)
  go_cut [1] (fun s wc => s = .int .i64 (min width 64) ∧ wc = w)
  case first =>
    by_cases h0 : 64 < width
    · have e : Hid (min width 64 = 64) := by show min width 64 = 64; omega
      go_wp2
      go_meet
      case rel => exact ⟨by rw [e.out], rfl⟩
    · have e : Hid (min width 64 = width) := by show min width 64 = width; omega
      go_wp2
      go_meet
      case rel => exact ⟨by rw [e.out], rfl⟩
  case rest =>
    obtain ⟨rfl, rfl⟩ := hcut
    go_upto_if 10 with (fail)
    go_cut [1] (fun s wx => s = .int .i64 (m : Int) ∧ wx = wc)
    case first =>
      by_cases h0 : min width 64 < 0
      · have e : Hid (m = 0) := by show m = 0; omega
        go_wp2
        go_meet
        case rel => exact ⟨by rw [e.out]; rfl, rfl⟩
      · have e : Hid (min width 64 = (m : Int)) := by show min width 64 = (m : Int); omega
        go_wp2
        go_meet
        case rel => exact ⟨by rw [e.out], rfl⟩
    case rest =>
      obtain ⟨rfl, rfl⟩ := hcut
      clear hmi hwd
      by_cases ho : fail = true ∨ b.length < m
      · have hov : rover b fail m = true := by unfold rover; simpa using ho
        have HG : Hid (rgot b fail m = 0) := by show rgot b fail m = 0; unfold rgot; rw [if_pos hov]
        have HN : Hid (rnext b fail m = []) := by show rnext b fail m = []; unfold rnext; rw [if_pos hov]
        have HV := Lib.hid hov
        clear hov
        have fin : InR ((wc.setCell ⟨g, 0, none⟩ (.slice none 0 0)).setCell ⟨g, 1, none⟩ (.bool true)) g none 0 [] true := by
          refine ⟨?_, Rd.nil _ _, by simp, fun _ => rfl, by simp, by omega⟩
          rw [blk_set (blk_set H.out.blk 0 _) 1 _]; simp
        have FIN := Lib.hid fin
        have fs : Fr (RS g) wc ((wc.setCell ⟨g, 0, none⟩ (.slice none 0 0)).setCell ⟨g, 1, none⟩ (.bool true)) := ((Fr.refl (RS g) wc).setCell (p := ⟨g, 0, none⟩) (.inl rfl) _).setCell (p := ⟨g, 1, none⟩) (.inl rfl) _
        have FS := Lib.hid fs
        clear fin fs
        cases fail
        · have ho' : b.length < m := by simpa using ho
          clear ho
          go_wp2
          go_ret
          exact ⟨by rw [HG.out]; rfl, ⟨none, 0, by rw [HN.out, HV.out]; exact FIN.out, fun _ e => by cases e⟩, FS.out⟩
        · clear ho
          go_wp2
          go_ret
          exact ⟨by rw [HG.out]; rfl, ⟨none, 0, by rw [HN.out, HV.out]; exact FIN.out, fun _ e => by cases e⟩, FS.out⟩
      · have hff : fail = false := by cases fail <;> simp_all
        subst hff
        have hmb : m ≤ b.length := by simp at ho; exact ho
        have hov : rover b false m = false := by unfold rover; simp; exact hmb
        have HG : Hid (rgot b false m = num (bitAt b) 0 m) := by show rgot b false m = num (bitAt b) 0 m; unfold rgot; rw [if_neg (by rw [hov]; decide)]
        have HN : Hid (rnext b false m = b.drop m) := by show rnext b false m = b.drop m; unfold rnext; rw [if_neg (by rw [hov]; decide)]
        have HV := Lib.hid hov
        have hsm : c ≤ 9223372036854775807 := H.out.small
        have hbc : b.length ≤ c := H.out.cap
        clear hov ho
        go_wp2
        go_loopg [5, 6] m (fun gk n i wr => ∃ (k : Nat), k + gk = m ∧ n = .int .u64 ((num (bitAt b) 0 k : Nat) : Int) ∧ i = .int .i64 (k : Int) ∧ wr = wc)
        case atStart => exact ⟨0, by omega, rfl, rfl, rfl⟩
        case round =>
          obtain ⟨k, hk, rfl, rfl, rfl⟩ := hrel
          by_cases hkm : k < m
          · have hsucc : Hid (num (bitAt b) 0 (k + 1) = 2 * num (bitAt b) 0 k + (bitAt b k).toNat) := by
              show num (bitAt b) 0 (k + 1) = 2 * num (bitAt b) 0 k + (bitAt b k).toNat
              simp only [num, Nat.zero_add]
            have hn63 : num (bitAt b) 0 k < 9223372036854775808 := Nat.lt_of_lt_of_le (num_lt _ _ k) (by
              have : 2 ^ k ≤ 2 ^ 63 := Nat.pow_le_pow_right (by omega) (by omega)
              exact this)
            obtain ⟨n, hn⟩ : ∃ n, num (bitAt b) 0 k = n := ⟨_, rfl⟩
            rw [hn] at hsucc hn63 ⊢
            clear hn
            obtain ⟨ad, e, hc⟩ := H.out.rd.bool (show k < b.length by omega)
            subst e
            obtain ⟨x, hx⟩ : ∃ x, b.getD k false = x := ⟨_, rfl⟩
            rw [hx] at hc
            have hbx : Hid (bitAt b k = x) := hx
            clear hx
            cases x
            · go_wp2
              go_roundg (m - (k + 1))
              case measure => omega
              case rel => exact ⟨k + 1, by omega, by rw [hsucc.out, hbx.out]; go_num, by go_num, rfl⟩
            · go_wp2
              go_roundg (m - (k + 1))
              case measure => omega
              case rel => exact ⟨k + 1, by omega, by rw [hsucc.out, hbx.out]; go_num, by go_num, rfl⟩
          · obtain rfl : k = m := by omega
            obtain ⟨n, hn⟩ : ∃ n, num (bitAt b) 0 k = n := ⟨_, rfl⟩
            rw [hn] at HG ⊢
            clear hn
            cases A with
            | none =>
              have hc0 : c = 0 := H.out.nil rfl
              subst hc0
              have hb0 : b = [] := List.eq_nil_of_length_eq_zero (by omega)
              subst hb0
              obtain rfl : k = 0 := by simp at hmb; omega
              go_wp2
              go_ret
              refine ⟨by rw [HG.out]; rfl, ⟨none, 0, ?_, fun _ e => by cases e⟩, ?_⟩
              · rw [HN.out, HV.out]
                refine ⟨?_, Rd.nil _ _, by simp, fun _ => rfl, by simp, by omega⟩
                rw [blk_set H.out.blk]; simp
              · exact (Fr.refl (RS g) wr).setCell (p := ⟨g, 0, none⟩) (.inl rfl) _
            | some ad =>
              have hds : (b.drop k).length = b.length - k := by simp
              have rdd : ∀ w1 : World, Rd w1 (some ad) (bls b) → Rd w1 (some (ad.add k)) (bls (b.drop k)) := by
                intro w1 h
                refine ⟨by rw [bls_length]; have := h.1; rw [bls_length] at this; omega, fun j hj => ⟨_, rfl, ?_⟩⟩
                rw [bls_length, hds] at hj
                obtain ⟨ad', e, hc⟩ := h.2 (k + j) (by rw [bls_length]; omega)
                cases e
                rw [Addr.add_add, hc]
                simp [bls, List.getD_eq_getElem?_getD]
              have RDD := Lib.hid rdd
              have hle2 : b.length - k ≤ c - k := by omega
              clear rdd
              by_cases hkc : k < c
              · have fs : Fr (RS g) wr (wr.setCell ⟨g, 0, none⟩ (.slice (some (ad.add k)) (b.length - k) (c - k))) := (Fr.refl (RS g) wr).setCell (p := ⟨g, 0, none⟩) (.inl rfl) _
                have fin : InR (wr.setCell ⟨g, 0, none⟩ (.slice (some (ad.add k)) (b.length - k) (c - k))) g (some (ad.add k)) (c - k) (b.drop k) false := by
                  refine ⟨?_, ?_, by rw [hds]; exact hle2, (fun h => by cases h), ?_, by omega⟩
                  · rw [blk_set H.out.blk, hds]; simp
                  · exact (RDD.out _ H.out.rd).fr fs (fun a e => by cases e; rw [Addr.add_block]; exact H.out.ne ad rfl)
                  · intro a e
                    cases e
                    rw [Addr.add_block]; exact H.out.ne ad rfl
                have FIN := Lib.hid fin
                have FS := Lib.hid fs
                clear fin fs
                go_wp2
                go_ret
                exact ⟨by rw [HG.out]; rfl, ⟨_, _, by rw [HN.out, HV.out]; exact FIN.out, fun a e => ⟨ad, rfl, by cases e; exact Addr.add_block ad k⟩⟩, FS.out⟩
              · obtain rfl : k = c := by omega
                have hbk : b.length = k := by omega
                go_wp2
                go_ret
                have fs : Fr (RS g) wr (wr.setCell ⟨g, 0, none⟩ (.slice (some ad) 0 0)) := (Fr.refl (RS g) wr).setCell (p := ⟨g, 0, none⟩) (.inl rfl) _
                refine ⟨by rw [HG.out]; rfl, ⟨some ad, 0, ?_, fun a e => ⟨a, e, rfl⟩⟩, fs⟩
                rw [HN.out, HV.out, List.drop_of_length_le (by omega)]
                refine ⟨?_, Rd.nil _ _, by simp, (fun h => by cases h), fun a e => by cases e; exact H.out.ne ad rfl, by omega⟩
                rw [blk_set H.out.blk]; simp
end Go.Proofs.Ytfnlimcgoeknjaa
