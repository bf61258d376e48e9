import Derived.Test.YtfnlimcgoeknjaaLists
namespace Go.Proofs.Ytfnlimcgoeknjaa
open Go.RowKit Go Fl

theorem infoII : (Try.prog.info? 49).map (fun i => (i.zero, i.size, i.bytes)) = some (some (.slice none 0 0), 1, 24) := by kernel_rfl
def nats (l : List Nat) : List Int := l.map fun (n : Nat) => (n : Int)
theorem rd_in1 {w : World} {A : Option Addr} {xs : List Nat} (h : RdK w A 1 xs.length (xs.flatMap in1)) : Rd w A (ints .i64 (nats xs)) := by
  have e : xs.flatMap in1 = ints .i64 (nats xs) := by
    clear h
    induction xs with
    | nil => rfl
    | cons x xs ih => rw [List.flatMap_cons, ih]; rfl
  rw [e] at h
  have hl : (ints .i64 (nats xs)).length = xs.length := by simp [nats, ints]
  exact ⟨by rw [hl]; exact h.2.1, fun j hj => h.2.2 j (by rw [hl] at hj; omega)⟩
/-- Rows of numbers, in a row of this call's own: where each lies. -/
abbrev IL := List (Option Addr × Nat × List Int)
def ilv (M : IL) : List Value := M.map fun x => .slice x.1 x.2.2.length x.2.1
theorem ilv_length (M : IL) : (ilv M).length = M.length := by simp [ilv]
structure Rows2 (w0 w : World) (v : Value) (M : IL) : Prop where
  own : OwnK w 49 1 v M.length (ilv M)
  old : ∀ k, v.ownBlock = some k → w0.heap.size ≤ k
  rd : ∀ x ∈ M, Rd w x.1 (ints .i64 x.2.2) ∧ (∀ ad, x.1 = some ad → w0.heap.size ≤ ad.block ∧ v.ownBlock ≠ some ad.block ∧ ad.block < w.heap.size) ∧ (x.1 = none → x.2.1 = 0)
theorem Rows2.nil (w0 w : World) : Rows2 w0 w (.slice none 0 0) [] := ⟨OwnK.nil _ _ _, fun k h => by simp [Value.ownBlock] at h, by simp⟩
theorem Rows2.fr {S : Nat → Prop} {w0 w w1 : World} {v : Value} {M : IL} (h : Rows2 w0 w v M) (hf : Fr S w w1) (hs : ∀ k, w0.heap.size ≤ k → ¬ S k) : Rows2 w0 w1 v M :=
  ⟨h.own.fr hf (fun k hk => hs k (h.old k hk)), h.old, fun x hx => ⟨(h.rd x hx).1.fr hf (fun ad e => hs _ ((h.rd x hx).2.1 ad e).1), fun ad e => ⟨((h.rd x hx).2.1 ad e).1, ((h.rd x hx).2.1 ad e).2.1, Nat.lt_of_lt_of_le ((h.rd x hx).2.1 ad e).2.2 hf.size⟩, (h.rd x hx).2.2⟩⟩
theorem Rows2.base {w0 w00 w : World} {v : Value} {M : IL} (h : Rows2 w0 w v M) (hb : w00.heap.size ≤ w0.heap.size) : Rows2 w00 w v M :=
  ⟨h.own, fun k hk => Nat.le_trans hb (h.old k hk), fun x hx => ⟨(h.rd x hx).1, fun ad e => ⟨Nat.le_trans hb ((h.rd x hx).2.1 ad e).1, ((h.rd x hx).2.1 ad e).2⟩, (h.rd x hx).2.2⟩⟩
theorem Rows2.no {w0 w w1 : World} {v : Value} {M : IL} (h : Rows2 w0 w v M) (hf : Fr No w w1) : Rows2 w0 w1 v M := h.fr hf (fun _ _ k => k)
theorem Rows2.snoc {w0 w w1 : World} {v v1 : Value} {M : IL} {x : Option Addr × Nat × List Int} (h : Rows2 w0 w v M) (o : OwnK w1 49 1 v1 (M.length + 1) (ilv M ++ [.slice x.1 x.2.2.length x.2.1])) (f : Fr (fun k => v.ownBlock = some k) w w1) (a : v1.ownBlock = v.ownBlock ∨ ∃ b, v1.ownBlock = some b ∧ w.heap.size ≤ b)
    (hw : w0.heap.size ≤ w.heap.size) (hx : Rd w x.1 (ints .i64 x.2.2)) (hx2 : ∀ ad, x.1 = some ad → w0.heap.size ≤ ad.block ∧ v.ownBlock ≠ some ad.block ∧ ad.block < w.heap.size) (hx3 : x.1 = none → x.2.1 = 0) : Rows2 w0 w1 v1 (M ++ [x]) := by
  have key : ∀ y : Option Addr × Nat × List Int, Rd w y.1 (ints .i64 y.2.2) → (∀ ad, y.1 = some ad → w0.heap.size ≤ ad.block ∧ v.ownBlock ≠ some ad.block ∧ ad.block < w.heap.size) → (y.1 = none → y.2.1 = 0) → Rd w1 y.1 (ints .i64 y.2.2) ∧ (∀ ad, y.1 = some ad → w0.heap.size ≤ ad.block ∧ v1.ownBlock ≠ some ad.block ∧ ad.block < w1.heap.size) ∧ (y.1 = none → y.2.1 = 0) := by
    intro y h1 h2 h3
    refine ⟨h1.fr f (fun ad e => (h2 ad e).2.1), fun ad e => ⟨(h2 ad e).1, ?_, Nat.lt_of_lt_of_le (h2 ad e).2.2 f.size⟩, h3⟩
    rcases a with e1 | ⟨b, e1, hb⟩
    · rw [e1]; exact (h2 ad e).2.1
    · rw [e1]; intro e2; cases e2; have := (h2 ad e).2.2; omega
  refine ⟨?_, ?_, ?_⟩
  · rw [List.length_append]
    simpa [ilv] using o
  · intro k hk
    rcases a with e1 | ⟨b, e1, hb⟩
    · rw [e1] at hk; exact h.old k hk
    · rw [e1] at hk; cases hk; omega
  · intro y hy
    rcases List.mem_append.1 hy with hy | hy
    · exact key y (h.rd y hy).1 (h.rd y hy).2.1 (h.rd y hy).2.2
    · simp at hy
      subst hy
      exact key y hx hx2 hx3
theorem itL_succ {α : Type} (g : Pl → α) (f : Pl → Pl) (s : Pl) (k : Nat) : itL g f s (k + 1) = itL g f s k ++ [g (itS f s k)] := rfl
theorem run_makeFunc (fn : Fn) (first cap : Array Value) (P : Program) (w : World) : (Instr.makeFunc fn first cap).run P w = .ok (.func fn first cap) w := rfl

theorem decN_any {w : World} {c r : Nat} {B : Option Addr} {d : Nat} {l : List UInt8} {s : Pl} (h : RdAt w r B d l s) (hc : Cap w c r) :
    Calls Try.prog 70 #[.pointer (some ⟨c, 0, none⟩)] w fun e w' => ∃ v xs, e = .returned v ∧ OwnK w' 3 1 v xs.length (xs.flatMap in1) ∧ New w v ∧ RdAt w' r B d l (inN l s) ∧ Fr (RS r) w w' ∧ Hid ((inN l s).2 = false → xs = inV l s) := by
  have HG := Lib.hid (listI_any h hc)
  have c0 := hc.1
  have hmf : ∀ (fn : Fn) (first cap : Array Value) (w : World), (Instr.makeFunc fn first cap).run Try.prog w = .ok (.func fn first cap) w := fun _ _ _ _ => rfl
  clear h hc
  go_enter Try.func70, Try.ntmps70
  go_wp2_with fail
  refine HG.out.mono ?_
  rintro e w1 ⟨v, xs, rfl, O1, N1, R1, F1, E1⟩
  clear c0
  go_wp2
  go_ret
  exact ⟨v, xs, rfl, O1, N1, R1, F1, E1⟩

set_option maxRecDepth 20000 in
set_option maxHeartbeats 4000000 in
theorem listII_any {w : World} {c r : Nat} {B : Option Addr} {d : Nat} {l : List UInt8} {s : Pl} (h : RdAt w r B d l s) (hc : Cap w c r) :
    Calls Try.prog 69 #[.pointer (some ⟨r, 0, none⟩), .func (.func 70) #[] #[.pointer (some ⟨c, 0, none⟩)]] w fun e w' => ∃ v M, e = .returned v ∧ Rows2 w w' v M ∧ RdAt w' r B d l (liS (inN l) l s) ∧ Fr (RS r) w w' ∧ Hid ((liS (inN l) l s).2 = false → M.map (fun x => x.2.2) = (liL (inV l) (inN l) l s).map nats) := by
  have HG := Lib.hid (get_at h 8 8 rfl)
  have hlt := gt_lt l s 8
  have hrl : Hid (r < w.heap.size) := blk_lt h.blk
  have hBl : Hid (∀ ad, B = some ad → ad.block < w.heap.size) := h.lt
  have HC := Lib.hid hc
  unfold liL liS
  obtain ⟨n, hn⟩ : ∃ n, gt l s 8 = n := ⟨_, rfl⟩
  obtain ⟨s1, hs1⟩ : ∃ s1, nx l s 8 = s1 := ⟨_, rfl⟩
  rw [hn, hs1] at HG
  rw [hn] at hlt
  rw [hn, hs1]
  clear h hn hs1 hc
  go_enter Try.func69, Try.ntmps69
  go_wp2_with fail
  refine HG.out.mono ?_
  rintro e w1 ⟨rfl, R1, F1⟩
  have HR1 := Lib.hid R1
  have HF1 := Lib.hid F1
  clear HG R1 F1
  go_wp2
  go_loopg [5, 9] n (fun gk u i wr => ∃ (k : Nat) (v2 : Value) (M : IL), k + gk = n ∧ v2 = u ∧ i = .int .u64 (k : Int) ∧ Hid (Rows2 w wr v2 M) ∧ Hid (M.map (fun x => x.2.2) = (itL (inV l) (inN l) s1 k).map nats ∧ M.length = k) ∧ Hid (RdAt wr r B d l (itS (inN l) s1 k)) ∧ Hid (Fr (RS r) w wr))
  case atStart => exact ⟨0, _, [], by omega, rfl, rfl, Rows2.nil _ _, ⟨rfl, rfl⟩, HR1, HF1⟩
  case round =>
    obtain ⟨k, v2, M, hk, rfl, rfl, HO, HN, HR, HF⟩ := hrel
    clear HR1 HF1
    by_cases hkn : k < n
    · have HD := Lib.hid (decN_any HR.out (HC.out.rs HF.out))
      have hsu : Hid (itS (inN l) s1 (k + 1) = inN l (itS (inN l) s1 k)) := rfl
      have hfl := Lib.hid (itL_succ (inV l) (inN l) s1 k)
      go_wp2_with fail
      refine HD.out.mono ?_
      rintro e w3 ⟨vx, xs, rfl, OX, NX, R3, F3, EX⟩
      obtain ⟨Ax, cx, rfl, _, hAx, hBx, RX⟩ := OX.shape
      rw [← hsu.out] at R3
      have hok := ok_any R3
      obtain ⟨b, hb⟩ : ∃ b, (itS (inN l) s1 (k + 1)).2 = b := ⟨_, rfl⟩
      rw [hb] at hok
      have NB : ∀ ad, Ax = some ad → w.heap.size ≤ ad.block ∧ v2.ownBlock ≠ some ad.block ∧ ad.block < w3.heap.size := by
        intro ad e
        have hq := hBx ad e
        have h1 := NX _ hq
        have h2 := OX.lt hq
        refine ⟨Nat.le_trans HF.out.size h1, fun e2 => ?_, h2⟩
        have := HO.out.own.lt e2
        omega
      have HNB := Lib.hid NB
      have HRX : Hid (Rd w3 Ax (ints .i64 (nats xs))) := by show Rd _ _ _; exact rd_in1 RX
      have HAX := Lib.hid hAx
      have HO3 := Lib.hid (HO.out.fr F3 (fun q hq e => by have e2 : q = r := e; have := hrl.out; omega))
      have HF3 := Lib.hid (HF.out.trans F3 (fun i hi => .inl hi))
      have HR3 := Lib.hid R3
      have HOK := Lib.hid hok
      have HB := Lib.hid hb
      clear R3 F3 HO HF HR HD hok hb OX NX RX NB hAx hBx
      cases b with
      | true =>
        go_wp2_with fail
        refine HOK.out.mono ?_
        rintro e w4 ⟨rfl, rfl⟩
        go_wp2
        go_ret
        refine ⟨.slice none 0 0, [], rfl, Rows2.nil _ _, ?_, HF3.out, Lib.hid fun hx => ?_⟩
        · have hst := itS_stop (inN_stops l) HB.out (gk - 1)
          rw [show k + 1 + (gk - 1) = n by omega] at hst
          rw [hst]
          exact HR3.out
        · have hst := itS_stop (inN_stops l) HB.out (gk - 1)
          rw [show k + 1 + (gk - 1) = n by omega] at hst
          rw [hst, HB.out] at hx
          cases hx
      | false =>
        go_wp2_with fail
        refine HOK.out.mono ?_
        rintro e w4 ⟨rfl, rfl⟩
        have hEX : Hid (xs = inV l (itS (inN l) s1 k)) := EX.out (by show (inN l (itS (inN l) s1 k)).2 = false; rw [← hsu.out]; exact HB.out)
        go_wp2_with (at_builtin; go_loud (refine own_append_k rfl (.tmp 16) (.tmp 18) 35 49 (.slice none 0 0) 1 24 rfl Try.underlying35 infoII rfl (by decide) (by decide) _ M.length (ilv M) _ _ rfl rfl rfl rfl (by simp [Value.oneCell']) HO3.out.own ?hl ?_))
        case hl => rw [HN.out.2]; omega
        intro v3 w5 o5 f5 a5
        obtain ⟨N5, R5, F5⟩ := snoc_fr hrl.out hBl.out HO3.out.old HR3.out HF3.out f5 a5
        have O5 : Rows2 w w5 v3 (M ++ [(Ax, cx, nats xs)]) := HO3.out.snoc (x := (Ax, cx, nats xs)) (by simpa [nats] using o5) f5 a5 HF3.out.size HRX.out HNB.out HAX.out
        have E5 : (M ++ [(Ax, cx, nats xs)]).map (fun x => x.2.2) = (itL (inV l) (inN l) s1 (k + 1)).map nats ∧ (M ++ [(Ax, cx, nats xs)]).length = k + 1 := by
          rw [hfl.out, List.map_append, List.map_append, HN.out.1, hEX.out]
          exact ⟨rfl, by rw [List.length_append, HN.out.2]; rfl⟩
        have H1 := Lib.hid O5
        have H2 := Lib.hid F5
        have H3 := Lib.hid E5
        have H4 := Lib.hid R5
        clear o5 f5 a5 N5 R5 F5 O5 E5 HO3 HF3 HR3 HOK HNB HRX HAX hEX
        go_wp2
        go_roundg (n - (k + 1))
        case measure => omega
        case rel => exact ⟨k + 1, v3, M ++ [(Ax, cx, nats xs)], by omega, rfl, by go_num, H1, H3, H4, H2⟩
    · obtain rfl : k = n := by omega
      go_wp2
      go_ret
      exact ⟨v2, M, rfl, HO.out, HR.out, HF.out, Lib.hid fun _ => HN.out.1⟩

theorem nested_any {w : World} {r : Nat} {B : Option Addr} {d : Nat} {l : List UInt8} {s : Pl} (h : RdAt w r B d l s) :
    Calls Try.prog 37 #[.pointer (some ⟨r, 0, none⟩)] w fun e w' => ∃ v M, e = .returned v ∧ Rows2 w w' v M ∧ RdAt w' r B d l (liS (inN l) l s) ∧ Fr (RS r) w w' ∧ Hid ((liS (inN l) l s).2 = false → M.map (fun x => x.2.2) = (liL (inV l) (inN l) l s).map nats) := by
  have F0 := (Fr.refl No w).alloc (.cells #[.pointer (some ⟨r, 0, none⟩)] 67)
  have c0 : (w.alloc (.cells #[.pointer (some ⟨r, 0, none⟩)] 67)).cell? ⟨w.heap.size, 0, none⟩ = some (.pointer (some ⟨r, 0, none⟩)) := by rw [blk_cell (blk_new _ _)]; rfl
  have hrl : r < w.heap.size := blk_lt h.blk
  have HG := Lib.hid (listII_any (h.fr F0 (fun k => k) (fun _ _ k => k)) ⟨c0, by omega⟩)
  have HF0 := Lib.hid F0
  have hmf : ∀ (fn : Fn) (first cap : Array Value) (w : World), (Instr.makeFunc fn first cap).run Try.prog w = .ok (.func fn first cap) w := fun _ _ _ _ => rfl
  clear h F0
  go_enter Try.func37, Try.ntmps37
  go_wp2_with fail
  refine HG.out.mono ?_
  rintro e w1 ⟨v, M, rfl, O1, R1, F1, E1⟩
  clear c0
  go_wp2
  go_ret
  exact ⟨v, M, rfl, O1.base (by simp), R1, (HF0.out.no (S := RS r)).trans F1 (fun i hi => .inl hi), E1⟩
end Go.Proofs.Ytfnlimcgoeknjaa
