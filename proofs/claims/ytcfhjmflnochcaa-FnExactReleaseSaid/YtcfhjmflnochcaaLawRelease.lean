/-
  The law's walk: Release answers as the reference, at every host and argument.
-/
import Derived.Test.YtcfhjmflnochcaaLaw0
set_option linter.unusedVariables false
set_option linter.unusedSimpArgs false
namespace Go.Proofs.Ytcfhjmflnochcaa
open Go.RowKit
variable {p q : Prop}

set_option maxHeartbeats 20000000 in
set_option maxRecDepth 100000 in
theorem FnExactRelease_any (w : World) (h : LHost) (sent : Bool) (L : HostLens h) (H : HostR False 107 87 46 90 w h) :
    Calls Try.prog 3 #[.agg #[.int .i64 h.cfg.boxes, .int .i64 h.cfg.fifo, .int .i64 h.cfg.policy, .int .i64 h.cfg.events, .slice h.fA h.filters.length h.fc, .slice h.bA h.boxes.length h.bc, .slice h.qA h.fifo.length h.qc, .slice h.eA h.queue.length h.ec, .int .i64 h.lost, .int .i64 h.stamp], .bool sent] w (RetW (.bool true) (fun w' => Below w.heap.size w w')) := by
  have R : Hid _ := fun W (k : Below w.heap.size w W) => H.below k
  clear H
  go_enter Try.func3, Try.ntmps3
  go_wp2_with fail
  have k0 := heap_new (W := w) (.cells (hostCells h) 29) _ rfl
  refine (szHost_any _ h 1048576 (by omega) (by omega) L _ _ _ _ (R.out _ (by exact (by repeat first | with_reducible exact Below.refl _ _ | with_reducible assumption | with_reducible refine bl_alloc ?_ _ | with_reducible refine bl_drewN ?_ _ | with_reducible refine Below.drew ?_ | (refine bl_set ?_ (by simp <;> omega) _))))).mono ?_; rintro e w1 ⟨rfl, hb⟩
  have g1 : Hid (Below w.heap.size w w1) := bl_then (by repeat first | with_reducible exact Below.refl _ _ | with_reducible assumption | with_reducible refine bl_alloc ?_ _ | with_reducible refine bl_drewN ?_ _ | with_reducible refine Below.drew ?_ | (refine bl_set ?_ (by simp <;> omega) _)) hb
  have k1 := heap_below hb k0
  have K1 : Hid _ := k1
  have z1 := lt_of_heap k1
  obtain ⟨c0, c1, c2, c3, c4, c5, c6, c7, c8, c9, cf⟩ := ten k1
  clear k0 k1 hb
  by_cases hsz : (hostSize h : Int) ≤ 1048576
  · rw [sub_pos hsz]
    have HZ : hostSize h ≤ 1048576 := by omega
    have hz := hostSz_of HZ
    have HZZ : Hid _ := HZ
    obtain ⟨n0, hn0⟩ : ∃ n, n = hostSize h := ⟨_, rfl⟩
    rw [← hn0] at hsz HZ ⊢
    clear hn0
    go_wp2_with fail
    clear c0 c1 c2 c3 c4 c5 c6 c7 c8 c9 cf
    refine (toHost_any _ h hz (R.out _ g1.out)).mono ?_; rintro e w2 ⟨xa, rfl, Ra, da, Ia, Aa, hb⟩
    have hza : HostSz xa := hostSz_of (by rw [hostSize_dSize, da, ← hostSize_dSize]; exact HZZ.out)
    have DA : Hid _ := da
    have RA : Hid _ := Ra
    have g2 : Hid (Below w.heap.size w w2) := bl_then g1.out hb
    have K2 : Hid _ := heap_below hb K1.out
    clear da Ra Ia Aa hb
    go_wp2_with fail
    refine (ReleaseS_any _ xa sent hza _ _ _ _ RA.out).mono ?_
    rintro e w3 ⟨y0, rfl, d0, O0, hb⟩
    have D0 : Hid (y0.d = h.d.releaseF sent) := (by rw [d0, DA.out] : y0.d = h.d.releaseF sent)
    have hz0 : HostSz y0 := hostSz_of (small_host (by rw [D0.out]; exact releaseF_small _ _))
    have g3 : Hid (Below w.heap.size w w3) := bl_then g2.out hb
    have K3 : Hid _ := heap_below hb K2.out
    have k3 := K3.out
    have z2 := g2.out.size
    have OO : Hid (OwnHost (fun b => w.heap.size < b ∧ b < w3.heap.size) w3 y0) := O0.mono (fun b hb hl => ⟨by have := lt_of_heap K2.out; omega, hl⟩)
    obtain ⟨c0, c1, c2, c3, c4, c5, c6, c7, c8, c9, cf⟩ := ten k3
    have z3 := lt_of_heap k3
    clear d0 O0 hb k3 RA DA hza g2
    unfold hv
    go_wp2_with fail
    clear c0 c1 c2 c3 c4 c5 c6 c7 c8 c9 cf
    refine (toHost_any _ h hz (R.out _ (bl_then g3.out (by exact (by repeat first | with_reducible exact Below.refl _ _ | with_reducible assumption | with_reducible refine bl_alloc ?_ _ | with_reducible refine bl_drewN ?_ _ | with_reducible refine Below.drew ?_ | (refine bl_set ?_ (by simp <;> omega) _)))))).mono ?_; rintro e w4 ⟨x0, rfl, R0, d0, I0, A0, hb⟩
    have k6 := heap_below hb (heap_new (W := w3) (.cells (hostCells y0) 37) _ rfl)
    have gg : Below w3.heap.size w3 w4 := bl_then (by exact (by repeat first | with_reducible exact Below.refl _ _ | with_reducible assumption | with_reducible refine bl_alloc ?_ _ | with_reducible refine bl_drewN ?_ _ | with_reducible refine Below.drew ?_ | (refine bl_set ?_ (by simp <;> omega) _))) hb
    have K6 : Hid _ := k6
    have K4 : Hid _ := heap_below gg K3.out
    have g4 : Hid (Below w.heap.size w w4) := bl_then g3.out gg
    have O4 : Hid _ := OO.out.below gg
    have X0 : Hid (x0.d = h.d) := d0
    have RX : Hid _ := R0
    have IX : Hid (HostIn (w3.heap.size + 1) w4.heap.size x0) := (by simpa using I0 : HostIn (w3.heap.size + 1) w4.heap.size x0)
    have AX : Hid _ := A0
    have hzx : HostSz x0 := hostSz_of (by rw [hostSize_dSize, d0, ← hostSize_dSize]; exact HZZ.out)
    have hsx : Hid (HostSum x0) := hostSum_of (by rw [hostSize_dSize, d0, ← hostSize_dSize]; exact HZZ.out)
    have z6 := lt_of_heap k6
    clear R0 d0 I0 A0 hb gg k6
    have k4 := K4.out
    obtain ⟨c0, c1, c2, c3, c4, c5, c6, c7, c8, c9, cf⟩ := ten k4
    go_wp2_with fail
    clear c0 c1 c2 c3 c4 c5 c6 c7 c8 c9 cf
    refine (ReleaseI_any (p := True) _ x0 sent hzx _ _ _ _ (HostR.below RX.out (by exact (by repeat first | with_reducible exact Below.refl _ _ | with_reducible assumption | with_reducible refine bl_alloc ?_ _ | with_reducible refine bl_drewN ?_ _ | with_reducible refine Below.drew ?_ | (refine bl_set ?_ (by simp <;> omega) _))))).mono ?_
    rintro e w5 ⟨g0, rfl, d0, O0, A0, hb⟩
    have k7 := heap_below hb (heap_new (W := w4) (.cells (hostCells x0) 37) _ rfl)
    have gg : Below w4.heap.size w4 w5 := bl_then (by exact (by repeat first | with_reducible exact Below.refl _ _ | with_reducible assumption | with_reducible refine bl_alloc ?_ _ | with_reducible refine bl_drewN ?_ _ | with_reducible refine Below.drew ?_ | (refine bl_set ?_ (by simp <;> omega) _))) hb
    have K7 : Hid _ := k7
    have K5 : Hid _ := heap_below gg K4.out
    have K65 : Hid _ := heap_below gg K6.out
    have g5 : Hid (Below w.heap.size w w5) := bl_then g4.out gg
    have O5 : Hid _ := O4.out.below gg
    have RX5 : Hid _ := HostR.below RX.out gg
    have DG : Hid (g0.d = h.d.releaseF sent) := (by rw [d0, X0.out] : g0.d = h.d.releaseF sent)
    have hzg : HostSz g0 := hostSz_of (small_host (by rw [DG.out]; exact releaseF_small _ _))
    have hsg : Hid (HostSum g0) := hostSum_of (small_host (by rw [DG.out]; exact releaseF_small _ _))
    have OG : Hid (OwnHost (fun b => w4.heap.size + 1 ≤ b) w5 g0) := O0.mono (fun b hb _ => by simpa using hb)
    have AG : Hid _ := A0
    have z7 := lt_of_heap k7
    have z64 := K6.out
    replace z64 := lt_of_heap z64
    clear d0 O0 A0 hb gg k7 K4 K6 O4 RX g3 g4 OO K3
    have k5 := K5.out
    have k65 := K65.out
    obtain ⟨d0, d1, d2, d3, d4, d5, d6, d7, d8, d9, df⟩ := ten k65
    have z65 := lt_of_heap k65
    have z05 := lt_of_heap k5
    clear k5 k65
    unfold hv
    go_wp2_with fail
    clear d0 d1 d2 d3 d4 d5 d6 d7 d8 d9 df
    refine (eqHost_any (p := True) (q := True) _ g0 y0 hzg hz0 102 98 49 95 102 98 49 95 ?_ ?_).mono ?_; exact HostR.below OG.out.hostR (by exact (by repeat first | with_reducible exact Below.refl _ _ | with_reducible assumption | with_reducible refine bl_alloc ?_ _ | with_reducible refine bl_drewN ?_ _ | with_reducible refine Below.drew ?_ | (refine bl_set ?_ (by simp <;> omega) _))); exact HostR.below O5.out.hostR (by exact (by repeat first | with_reducible exact Below.refl _ _ | with_reducible assumption | with_reducible refine bl_alloc ?_ _ | with_reducible refine bl_drewN ?_ _ | with_reducible refine Below.drew ?_ | (refine bl_set ?_ (by simp <;> omega) _))); rintro e w6 ⟨rfl, hb⟩
    rw [decide_eq_true (DG.out.trans D0.out.symm)]
    have k8 := heap_below hb (heap_new (W := w5) (.cells (hostCells g0) 37) _ rfl)
    have gg : Below w5.heap.size w5 w6 := bl_then (by exact (by repeat first | with_reducible exact Below.refl _ _ | with_reducible assumption | with_reducible refine bl_alloc ?_ _ | with_reducible refine bl_drewN ?_ _ | with_reducible refine Below.drew ?_ | (refine bl_set ?_ (by simp <;> omega) _))) hb
    have K8 : Hid _ := k8
    have K06 : Hid _ := heap_below gg K5.out
    have K66 : Hid _ := heap_below gg K65.out
    have K76 : Hid _ := heap_below gg K7.out
    have g6 : Hid (Below w.heap.size w w6) := bl_then g5.out gg
    have O6 : Hid _ := O5.out.below gg
    have RX6 : Hid _ := HostR.below RX5.out gg
    have OG6 : Hid _ := OG.out.below gg
    have z8 := lt_of_heap k8
    have z06 := lt_of_heap K06.out
    have z76 := lt_of_heap K76.out
    have z66 := lt_of_heap K66.out
    clear k8 hb gg K5 K65 K7 O5 RX5 OG g5
    go_wp2_with fail
    have hS : Hid (∀ W, Below w6.heap.size w6 W → W.cell? ⟨w4.heap.size, 0, none⟩ = some (.int .i64 x0.cfg.boxes) ∧ W.cell? ⟨w4.heap.size, 1, none⟩ = some (.int .i64 x0.cfg.fifo) ∧ W.cell? ⟨w4.heap.size, 2, none⟩ = some (.int .i64 x0.cfg.policy) ∧ W.cell? ⟨w4.heap.size, 3, none⟩ = some (.int .i64 x0.cfg.events) ∧ W.cell? ⟨w4.heap.size, 4, none⟩ = some (.slice x0.fA x0.filters.length x0.fc) ∧ W.cell? ⟨w4.heap.size, 5, none⟩ = some (.slice x0.bA x0.boxes.length x0.bc) ∧ W.cell? ⟨w4.heap.size, 6, none⟩ = some (.slice x0.qA x0.fifo.length x0.qc) ∧ W.cell? ⟨w4.heap.size, 7, none⟩ = some (.slice x0.eA x0.queue.length x0.ec) ∧ W.cell? ⟨w4.heap.size, 8, none⟩ = some (.int .i64 x0.lost) ∧ W.cell? ⟨w4.heap.size, 9, none⟩ = some (.int .i64 x0.stamp) ∧ W.cell? ⟨w.heap.size, 0, none⟩ = some (.int .i64 h.cfg.boxes) ∧ W.cell? ⟨w.heap.size, 1, none⟩ = some (.int .i64 h.cfg.fifo) ∧ W.cell? ⟨w.heap.size, 2, none⟩ = some (.int .i64 h.cfg.policy) ∧ W.cell? ⟨w.heap.size, 3, none⟩ = some (.int .i64 h.cfg.events) ∧ W.cell? ⟨w.heap.size, 4, none⟩ = some (.slice h.fA h.filters.length h.fc) ∧ W.cell? ⟨w.heap.size, 5, none⟩ = some (.slice h.bA h.boxes.length h.bc) ∧ W.cell? ⟨w.heap.size, 6, none⟩ = some (.slice h.qA h.fifo.length h.qc) ∧ W.cell? ⟨w.heap.size, 7, none⟩ = some (.slice h.eA h.queue.length h.ec) ∧ W.cell? ⟨w.heap.size, 8, none⟩ = some (.int .i64 h.lost) ∧ W.cell? ⟨w.heap.size, 9, none⟩ = some (.int .i64 h.stamp) ∧ Below w6.heap.size w6 W) := fun W hW => by
      have e1 := heap_below hW K76.out
      have e2 := heap_below hW K06.out
      obtain ⟨a0, a1, a2, a3, a4, a5, a6, a7, a8, a9, af⟩ := ten e1
      obtain ⟨b0, b1, b2, b3, b4, b5, b6, b7, b8, b9, bf⟩ := ten e2
      exact ⟨a0, a1, a2, a3, a4, a5, a6, a7, a8, a9, b0, b1, b2, b3, b4, b5, b6, b7, b8, b9, hW⟩
    go_region_held3 (fun W => W.cell? ⟨w4.heap.size, 0, none⟩ = some (.int .i64 x0.cfg.boxes) ∧ W.cell? ⟨w4.heap.size, 1, none⟩ = some (.int .i64 x0.cfg.fifo) ∧ W.cell? ⟨w4.heap.size, 2, none⟩ = some (.int .i64 x0.cfg.policy) ∧ W.cell? ⟨w4.heap.size, 3, none⟩ = some (.int .i64 x0.cfg.events) ∧ W.cell? ⟨w4.heap.size, 4, none⟩ = some (.slice x0.fA x0.filters.length x0.fc) ∧ W.cell? ⟨w4.heap.size, 5, none⟩ = some (.slice x0.bA x0.boxes.length x0.bc) ∧ W.cell? ⟨w4.heap.size, 6, none⟩ = some (.slice x0.qA x0.fifo.length x0.qc) ∧ W.cell? ⟨w4.heap.size, 7, none⟩ = some (.slice x0.eA x0.queue.length x0.ec) ∧ W.cell? ⟨w4.heap.size, 8, none⟩ = some (.int .i64 x0.lost) ∧ W.cell? ⟨w4.heap.size, 9, none⟩ = some (.int .i64 x0.stamp) ∧ W.cell? ⟨w.heap.size, 0, none⟩ = some (.int .i64 h.cfg.boxes) ∧ W.cell? ⟨w.heap.size, 1, none⟩ = some (.int .i64 h.cfg.fifo) ∧ W.cell? ⟨w.heap.size, 2, none⟩ = some (.int .i64 h.cfg.policy) ∧ W.cell? ⟨w.heap.size, 3, none⟩ = some (.int .i64 h.cfg.events) ∧ W.cell? ⟨w.heap.size, 4, none⟩ = some (.slice h.fA h.filters.length h.fc) ∧ W.cell? ⟨w.heap.size, 5, none⟩ = some (.slice h.bA h.boxes.length h.bc) ∧ W.cell? ⟨w.heap.size, 6, none⟩ = some (.slice h.qA h.fifo.length h.qc) ∧ W.cell? ⟨w.heap.size, 7, none⟩ = some (.slice h.eA h.queue.length h.ec) ∧ W.cell? ⟨w.heap.size, 8, none⟩ = some (.int .i64 h.lost) ∧ W.cell? ⟨w.heap.size, 9, none⟩ = some (.int .i64 h.stamp) ∧ Below w6.heap.size w6 W)
      (exact hS.out _ (by repeat first | with_reducible exact Below.refl _ _ | with_reducible assumption | with_reducible refine bl_alloc ?_ _ | with_reducible refine bl_drewN ?_ _ | with_reducible refine Below.drew ?_ | (refine bl_set ?_ (by simp <;> omega) _)))
      (first
        | (go_at_call 8
           refine (toHost_any _ h hz (R.out _ (bl_then g6.out (by exact (by repeat first | with_reducible exact Below.refl _ _ | with_reducible assumption | with_reducible refine bl_alloc ?_ _ | with_reducible refine bl_drewN ?_ _ | with_reducible refine Below.drew ?_ | (refine bl_set ?_ (by simp <;> omega) _)))))).mono ?_; rintro e w7 ⟨x1, rfl, R1, d1, I1, A1, hb⟩
           have hb7 : Below w6.heap.size w6 w7 := bl_then (by exact (by repeat first | with_reducible exact Below.refl _ _ | with_reducible assumption | with_reducible refine bl_alloc ?_ _ | with_reducible refine bl_drewN ?_ _ | with_reducible refine Below.drew ?_ | (refine bl_set ?_ (by simp <;> omega) _))) hb
           have X1 : Hid (x1.d = h.d) := d1
           have RX1 : Hid _ := R1
           have hz1 : HostSz x1 := hostSz_of (by rw [hostSize_dSize, d1, ← hostSize_dSize]; exact HZZ.out)
           clear R1 d1 I1 A1 hb)
        | (go_at_call 10
           refine (eqHost_any (p := True) (q := True) _ x0 x1 hzx hz1 102 98 49 95 102 98 49 95 ?_ ?_).mono ?_; exact HostR.below RX6.out (by exact (by repeat first | with_reducible exact Below.refl _ _ | with_reducible assumption | with_reducible refine bl_alloc ?_ _ | with_reducible refine bl_drewN ?_ _ | with_reducible refine Below.drew ?_ | (refine bl_set ?_ (by simp <;> omega) _))); exact HostR.below RX1.out (by exact (by repeat first | with_reducible exact Below.refl _ _ | with_reducible assumption | with_reducible refine bl_alloc ?_ _ | with_reducible refine bl_drewN ?_ _ | with_reducible refine Below.drew ?_ | (refine bl_set ?_ (by simp <;> omega) _))); rintro e w8 ⟨rfl, hb⟩
           rw [decide_eq_true (X0.out.trans X1.out.symm)]
           have hb8 : Below w6.heap.size w6 w8 := bl_then (by exact (by repeat first | with_reducible exact Below.refl _ _ | with_reducible assumption | with_reducible refine bl_alloc ?_ _ | with_reducible refine bl_drewN ?_ _ | with_reducible refine Below.drew ?_ | (refine bl_set ?_ (by simp <;> omega) _))) hb
           clear hb))
    all_goals (
      clear hS
      have K7 : Hid _ := heap_below hb8 K76.out
      have K0 : Hid _ := heap_below hb8 K06.out
      have K6 : Hid _ := heap_below hb8 K66.out
      have K88 : Hid _ := heap_below hb8 K8.out
      have g8 : Hid (Below w.heap.size w w8) := bl_then g6.out hb8
      have O8 : Hid _ := O6.out.below hb8
      have RX8 : Hid _ := HostR.below RX6.out hb8
      have OG8 : Hid _ := OG6.out.below hb8
      have z8' := hb8.size
      clear hb8 K76 K06 K66 K8 g6 O6 RX6 OG6
      have k7 := K7.out
      obtain ⟨a0, a1, a2, a3, a4, a5, a6, a7, a8, a9, af⟩ := ten k7
      go_wp2_with fail
      clear a0 a1 a2 a3 a4 a5 a6 a7 a8 a9 af
      clear k7
      refine (markHost_any _ x0 1 (by omega) (by omega) hzx hsx.out RX8.out AX.out).mono ?_; rintro e w9 ⟨rfl, hm, ch⟩
      have hin : ∀ b, hBlk x0 b → w3.heap.size + 1 ≤ b ∧ b < w4.heap.size := fun b hb => hBlk_in IX.out hb
      have K79 : Hid _ := heap_chg ch K7.out (fun hb => by have := hin _ hb; omega)
      have K09 : Hid _ := heap_chg ch K0.out (fun hb => by have := hin _ hb; omega)
      have K69 : Hid _ := heap_chg ch K6.out (fun hb => by have := hin _ hb; omega)
      have K89 : Hid _ := heap_chg ch K88.out (fun hb => by have := hin _ hb; omega)
      have O9 : Hid _ := O8.out.chg ch (fun b hb _ hs => by have := hin _ hs; omega)
      have OG9 : Hid _ := OG8.out.chg ch (fun b hb _ hs => by have := hin _ hs; omega)
      have g9 : Hid (Below w.heap.size w w9) := bl_chg g8.out ch (fun b hb => by have := hin _ hb; omega)
      obtain ⟨n1, hn1⟩ : ∃ n, n = aHost x0 := ⟨_, rfl⟩
      rw [← hn1]
      have z89 := ch.size
      clear hn1 hm ch hin K7 K0 K6 K88 O8 RX8 OG8 g8
      have k8 := K89.out
      have k6 := K69.out
      obtain ⟨a0, a1, a2, a3, a4, a5, a6, a7, a8, a9, af⟩ := ten k8
      obtain ⟨b0, b1, b2, b3, b4, b5, b6, b7, b8, b9, bf⟩ := ten k6
      go_wp2_with fail
      clear a0 a1 a2 a3 a4 a5 a6 a7 a8 a9 af b0 b1 b2 b3 b4 b5 b6 b7 b8 b9 bf
      clear k8 k6
      refine (eqHost_any (p := True) (q := True) _ g0 y0 hzg hz0 _ _ _ _ _ _ _ _ OG9.out.hostR O9.out.hostR).mono ?_; rintro e w10 ⟨rfl, hb⟩
      rw [decide_eq_true (DG.out.trans D0.out.symm)]
      have K010 : Hid _ := heap_below hb K09.out
      have K610 : Hid _ := heap_below hb K69.out
      have K810 : Hid _ := heap_below hb K89.out
      have g10 : Hid (Below w.heap.size w w10) := bl_then g9.out hb
      have O10 : Hid _ := O9.out.below hb
      have OG10 : Hid _ := OG9.out.below hb
      have z10 := hb.size
      clear hb K79 K09 K69 K89 O9 OG9 g9
      have k8 := K810.out
      obtain ⟨a0, a1, a2, a3, a4, a5, a6, a7, a8, a9, af⟩ := ten k8
      go_wp2_with fail
      clear a0 a1 a2 a3 a4 a5 a6 a7 a8 a9 af
      clear k8
      refine (markHost_any _ g0 1 (by omega) (by omega) hzg hsg.out OG10.out.hostR AG.out).mono ?_; rintro e w11 ⟨rfl, hm, ch⟩
      have hin : ∀ b, hBlk g0 b → w4.heap.size + 1 ≤ b ∧ b < w10.heap.size := fun b hb => hBlk_in OG10.out.hostIn hb
      have hne : ∀ b, hBlk g0 b → Ty w10 102 b ∨ Ty w10 98 b ∨ Ty w10 49 b ∨ Ty w10 95 b ∨ Ty w10 5 b := fun b hb => hBlk_ty OG10.out.hostR hb
      have K811 : Hid _ := heap_chg ch K810.out (fun hb => by rcases hne _ hb with h | h | h | h | h <;> (have := h.one ⟨_, _, K810.out⟩; simp at this))
      have K011 : Hid _ := heap_chg ch K010.out (fun hb => by have := hin _ hb; omega)
      have K611 : Hid _ := heap_chg ch K610.out (fun hb => by have := hin _ hb; omega)
      have O11 : Hid _ := O10.out.chg ch (fun b hb _ hs => by have := hin _ hs; omega)
      have HM : Hid _ := hm
      have g11 : Hid (Below w.heap.size w w11) := bl_chg g10.out ch (fun b hb => by have := hin _ hb; omega)
      obtain ⟨n2, hn2⟩ : ∃ n, n = aHost g0 := ⟨_, rfl⟩
      rw [← hn2]
      have HN2 : Hid _ := hn2
      clear hn2 hm ch hin hne K810 K010 K610 O10 OG10 g10
      have k8 := K811.out
      obtain ⟨a0, a1, a2, a3, a4, a5, a6, a7, a8, a9, af⟩ := ten k8
      go_wp2_with fail
      clear a0 a1 a2 a3 a4 a5 a6 a7 a8 a9 af
      clear k8
      refine (heldHost_any (p := True) _ g0 1 (by omega) (by omega) hzg hsg.out HM.out).mono ?_; rintro e w12 ⟨rfl, hb⟩
      rw [← HN2.out]
      have K012 : Hid _ := heap_below hb K011.out
      have K612 : Hid _ := heap_below hb K611.out
      have g12 : Hid (Below w.heap.size w w12) := bl_then g11.out hb
      have O12 : Hid _ := O11.out.below hb
      have z12 := hb.size
      clear hb K811 K011 K611 O11 g11 HM
      have k0 := K012.out
      obtain ⟨a0, a1, a2, a3, a4, a5, a6, a7, a8, a9, af⟩ := ten k0
      go_wp2_with fail
      clear a0 a1 a2 a3 a4 a5 a6 a7 a8 a9 af
      clear k0
      refine (toHost_any _ h hz (R.out _ g12.out)).mono ?_; rintro e w13 ⟨x2, rfl, R2, d2, I2, A2, hb⟩
      have X2 : Hid (x2.d = h.d) := d2
      have RX2 : Hid _ := R2
      have hz2 : HostSz x2 := hostSz_of (by rw [hostSize_dSize, d2, ← hostSize_dSize]; exact HZZ.out)
      have K013 : Hid _ := heap_below hb K012.out
      have K613 : Hid _ := heap_below hb K612.out
      have g13 : Hid (Below w.heap.size w w13) := bl_then g12.out hb
      have O13 : Hid _ := O12.out.below hb
      clear R2 d2 I2 A2 hb K012 K612 g12 O12
      go_wp2_with fail
      refine (ReleaseI_any (p := True) _ x2 sent hz2 _ _ _ _ RX2.out).mono ?_
      rintro e w14 ⟨h0, rfl, d0, O0, A0, hb⟩
      have DH : Hid (h0.d = h.d.releaseF sent) := (by rw [d0, X2.out] : h0.d = h.d.releaseF sent)
      have hzh : HostSz h0 := hostSz_of (small_host (by rw [DH.out]; exact releaseF_small _ _))
      have OH : Hid _ := O0
      have k6 := heap_below hb K613.out
      have g14 : Hid (Below w.heap.size w w14) := bl_then g13.out hb
      have O14 : Hid _ := O13.out.below hb
      have z6' := lt_of_heap k6
      obtain ⟨a0, a1, a2, a3, a4, a5, a6, a7, a8, a9, af⟩ := ten k6
      clear d0 O0 A0 hb k6 K013 K613 g13 O13
      unfold hv
      go_wp2_with fail
      clear a0 a1 a2 a3 a4 a5 a6 a7 a8 a9 af
      refine (eqHost_any (p := True) (q := True) _ h0 y0 hzh hz0 102 98 49 95 102 98 49 95 ?_ ?_).mono ?_; exact HostR.below OH.out.hostR (by exact (by repeat first | with_reducible exact Below.refl _ _ | with_reducible assumption | with_reducible refine bl_alloc ?_ _ | with_reducible refine bl_drewN ?_ _ | with_reducible refine Below.drew ?_ | (refine bl_set ?_ (by simp <;> omega) _))); exact HostR.below O14.out.hostR (by exact (by repeat first | with_reducible exact Below.refl _ _ | with_reducible assumption | with_reducible refine bl_alloc ?_ _ | with_reducible refine bl_drewN ?_ _ | with_reducible refine Below.drew ?_ | (refine bl_set ?_ (by simp <;> omega) _))); rintro e w15 ⟨rfl, hb⟩
      rw [decide_eq_true (DH.out.trans D0.out.symm)]
      have g15 : Below w.heap.size w w15 := bl_then (bl_then g14.out (by exact (by repeat first | with_reducible exact Below.refl _ _ | with_reducible assumption | with_reducible refine bl_alloc ?_ _ | with_reducible refine bl_drewN ?_ _ | with_reducible refine Below.drew ?_ | (refine bl_set ?_ (by simp <;> omega) _)))) hb
      clear hb
      go_wp2_with fail
      go_ret
      exact ⟨rfl, g15⟩)
  · rw [sub_neg hsz]
    go_wp2_with fail
    go_ret
    exact ⟨rfl, g1.out⟩
end Go.Proofs.Ytcfhjmflnochcaa
