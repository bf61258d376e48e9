import Derived.Test.YtfnlimcgoeknjaaLayE
namespace Go.Proofs.Ytfnlimcgoeknjaa
open Go.RowKit Go Fl

theorem rd_one {w : World} {A : Option Addr} {xs : List Int} (h : Rd w A (ints .i64 xs)) : RdK w A 1 xs.length (ints .i64 xs) :=
  ⟨by rw [ints_length]; omega, by have := h.1; rwa [ints_length] at this, fun j hj => h.2 j (by rw [ints_length]; omega)⟩
theorem ilv_at2 {w : World} {A : Option Addr} {M : IL} (h : RdK w A 1 M.length (ilv M)) {i : Nat} (hi : i < M.length) : ∃ ad, A = some ad ∧ w.cell? (ad.add i) = some (.slice M[i].1 M[i].2.2.length M[i].2.1) := by
  obtain ⟨ad, e, hc⟩ := h.2.2 i (by omega)
  refine ⟨ad, e, ?_⟩
  rw [hc]
  simp [ilv, List.getD_eq_getElem?_getD, List.getElem?_eq_getElem hi]
def ilE (x : Option Addr × Nat × List Int) : List Bool := roE x.2.2
theorem ilE_map (M : IL) : layB ilE M = layB roE (M.map fun x => x.2.2) := by
  unfold layB
  rw [List.length_map, List.flatMap_map]
  rfl
theorem encN_any {S : Nat → Prop} {w1 w : World} {c g : Nat} {b : List Bool} {x : Option Addr × Nat × List Int} (h : EncS S w1 w g b) (hc : CapS S w1 c g) (hR : Rd w1 x.1 (ints .i64 x.2.2)) (hA : ∀ ad, x.1 = some ad → ¬ S ad.block) (hb : b.length + (ilE x).length ≤ 549755813888) :
    Calls Try.prog 75 #[.slice x.1 x.2.2.length x.2.1, .pointer (some ⟨c, 0, none⟩)] w fun e w' => e = .returned (.tuple #[]) ∧ EncS S w1 w' g (b ++ ilE x) := by
  have HP := Lib.hid (layI_any (cap := x.2.1) h hc (rd_one hR) hA hb)
  have c0 := hc.at h
  have hmf : ∀ (fn : Fn) (first cap : Array Value) (w : World), (Instr.makeFunc fn first cap).run Try.prog w = .ok (.func fn first cap) w := fun _ _ _ _ => rfl
  obtain ⟨x0, x1, x2⟩ := x
  unfold ilE roE
  simp only at HP ⊢
  clear h hc hR hA hb
  go_enter Try.func75, Try.ntmps75
  go_wp2_with fail
  refine HP.out.mono ?_
  rintro e w3 ⟨rfl, H3⟩
  clear c0
  go_wp2
  go_end0
  exact ⟨rfl, H3⟩
set_option maxRecDepth 20000 in
set_option maxHeartbeats 4000000 in
theorem layN_any {S : Nat → Prop} {w1 w : World} {c g : Nat} {b : List Bool} {A : Option Addr} {cap : Nat} {l : IL} (h : EncS S w1 w g b) (hc : CapS S w1 c g) (hR : RdK w1 A 1 l.length (ilv l)) (hX : ∀ x ∈ l, Rd w1 x.1 (ints .i64 x.2.2) ∧ ∀ ad, x.1 = some ad → ¬ S ad.block) (hA : ∀ ad, A = some ad → ¬ S ad.block) (hb : b.length + (layB ilE l).length ≤ 549755813888) :
    Calls Try.prog 74 #[.pointer (some ⟨g, 0, none⟩), .slice A l.length cap, .func (.func 75) #[] #[.pointer (some ⟨c, 0, none⟩)]] w fun e w' => e = .returned (.tuple #[]) ∧ EncS S w1 w' g (b ++ layB ilE l) := by
  have hsz := hR.2.1
  unfold layB at hb ⊢
  rw [List.length_append, putBits_length] at hb
  have HP := Lib.hid (putS h (by omega) l.length (by omega) 8 8 rfl)
  have HC := Lib.hid hc
  have HR := Lib.hid hR
  have HA := Lib.hid hA
  have HB := Lib.hid hb
  have HX := Lib.hid hX
  clear hX
  obtain ⟨n, hn⟩ : ∃ n, l.length = n := ⟨_, rfl⟩
  have HN := Lib.hid hn
  rw [hn] at HP hsz ⊢
  have i1 : IntKind.u64.wrap (n : Int) = (n : Int) := by rw [IntKind.wrap_u64]; omega
  clear h hc hR hA hb hn
  go_enter Try.func74, Try.ntmps74
  go_wp2_with fail
  refine HP.out.mono ?_
  rintro e w2 ⟨rfl, H2⟩
  have HH := Lib.hid H2
  clear HP H2
  go_wp2
  go_loopg [15] n (fun gk i wr => ∃ k : Nat, k + gk = n ∧ i = .int .i64 (k : Int) ∧ Hid (EncS S w1 wr g (b ++ (putBits n 8 ++ (l.take k).flatMap ilE))))
  case atStart => exact ⟨0, by omega, rfl, Lib.hid (by rw [List.take_zero, List.flatMap_nil, List.append_nil]; exact HH.out)⟩
  case round =>
    obtain ⟨k, hk, rfl, HW⟩ := hrel
    clear HH i1
    by_cases hlt : k < n
    · have hkl : k < l.length := by rw [HN.out]; exact hlt
      obtain ⟨ad, rfl, cx⟩ := ilv_at2 (HR.out.fr HW.out.fr HA.out) hkl
      have xr := HX.out _ (List.getElem_mem hkl)
      have hsn := flat_snoc ilE l k hkl
      have hle := flat_le2 ilE l k hkl
      obtain ⟨x, hx⟩ : ∃ x, l[k] = x := ⟨_, rfl⟩
      rw [hx] at hsn hle cx xr
      have hbb : (b ++ (putBits n 8 ++ (l.take k).flatMap ilE)).length + (ilE x).length ≤ 549755813888 := by
        have := HB.out
        simp only [List.length_append, putBits_length]
        omega
      have HQ := Lib.hid (encN_any HW.out HC.out xr.1 xr.2 hbb)
      have i4 : (k : Int) < (n : Int) := by omega
      have i0 : (0 : Int) ≤ (k : Int) := by omega
      rw [List.append_assoc, List.append_assoc, ← hsn] at HQ
      clear hsn hle hx hbb xr
      go_wp2_with fail
      refine HQ.out.mono ?_
      rintro e w3 ⟨rfl, H3⟩
      have H4 := Lib.hid H3
      clear HQ H3 cx
      go_wp2
      go_roundg (n - (k + 1))
      case measure => omega
      case rel => exact ⟨k + 1, by omega, by go_num, H4⟩
    · obtain rfl : k = n := by omega
      go_wp2
      go_end0
      exact ⟨rfl, by have := HW.out; rw [← HN.out, List.take_length] at this; rw [← HN.out]; exact this⟩


theorem lists_any {S : Nat → Prop} {w1 w : World} {g : Nat} {b : List Bool} {A : Option Addr} {cap : Nat} {M : IL} (h : EncS S w1 w g b) (hR : RdK w1 A 1 M.length (ilv M)) (hX : ∀ x ∈ M, Rd w1 x.1 (ints .i64 x.2.2) ∧ ∀ ad, x.1 = some ad → ¬ S ad.block ∧ ad.block < w1.heap.size) (hA : ∀ ad, A = some ad → ¬ S ad.block ∧ ad.block < w1.heap.size) (hb : b.length + (layB ilE M).length ≤ 549755813888) :
    Calls Try.prog 49 #[.pointer (some ⟨g, 0, none⟩), .slice A M.length cap] w fun e w' => e = .returned (.tuple #[]) ∧ EncS S w1 w' g (b ++ layB ilE M) := by
  obtain ⟨S', E0, hx, back, sub⟩ := h.split' (.cells #[.pointer (some ⟨g, 0, none⟩)] 82)
  have f := h.fr.alloc (.cells #[.pointer (some ⟨g, 0, none⟩)] 82)
  have hn : ∀ k, ¬ S k ∧ k < w1.heap.size → ¬ S' k := fun k hk h => (sub k h).elim hk.1 (fun e => by have := hk.2; omega)
  have cc : (w.alloc (.cells #[.pointer (some ⟨g, 0, none⟩)] 82)).cell? ⟨w.heap.size, 0, none⟩ = some (.pointer (some ⟨g, 0, none⟩)) := by rw [blk_cell (blk_new _ _)]; rfl
  have HP := Lib.hid (layN_any (cap := cap) E0 ⟨cc, hx⟩ (hR.fr f (fun ad e => (hA ad e).1)) (fun x hx => ⟨(hX x hx).1.fr f (fun ad e => ((hX x hx).2 ad e).1), fun ad e => hn _ ((hX x hx).2 ad e)⟩) (fun ad e => hn _ (hA ad e)) hb)
  have HB := Lib.hid back
  have hmf : ∀ (fn : Fn) (first cap : Array Value) (w : World), (Instr.makeFunc fn first cap).run Try.prog w = .ok (.func fn first cap) w := fun _ _ _ _ => rfl
  clear h E0 hx back sub f hn hR hX hA hb
  go_enter Try.func49, Try.ntmps49
  go_wp2_with fail
  refine HP.out.mono ?_
  rintro e w3 ⟨rfl, H3⟩
  clear cc
  go_wp2
  go_end0
  exact ⟨rfl, HB.out _ _ H3⟩
end Go.Proofs.Ytfnlimcgoeknjaa
