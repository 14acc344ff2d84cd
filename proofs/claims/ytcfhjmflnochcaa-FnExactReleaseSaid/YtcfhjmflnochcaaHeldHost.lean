/-
  Holding a whole host after it was marked, and marking one frame.
-/
import Derived.Test.YtcfhjmflnochcaaMarkHost
set_option linter.unusedVariables false
set_option linter.unusedSimpArgs false
namespace Go.Proofs.Ytcfhjmflnochcaa
open Go.RowKit
variable {p q : Prop}

theorem mHost_fl (h : LHost) (k : Int) : (mHost h k).filters.length = h.filters.length := by simp [mHost, marks_len]
set_option maxRecDepth 100000 in
theorem heldHost_any (w : World) (h : LHost) (k : Int) (k0 : 0 ≤ k) (k1 : k ≤ 68719476736) (hz : HostSz h) (hs : HostSum h) (H : IHostR p w (mHost h k)) :
    Calls Try.prog 12 #[.agg #[.int .i64 h.cfg.boxes, .int .i64 h.cfg.fifo, .int .i64 h.cfg.policy, .int .i64 h.cfg.events, .slice h.fA h.filters.length h.fc, .slice h.bA h.boxes.length h.bc, .slice h.qA h.fifo.length h.qc, .slice h.eA h.queue.length h.ec, .int .i64 h.lost, .int .i64 h.stamp], .int .i64 k] w
      fun e w' => e = .returned (.int .i64 (k + (aHost h : Nat))) ∧ Below w.heap.size w w' := by
  have hf1 := fun W (k : Below w.heap.size w W) => H.below k
  clear H
  have hsf := hs.f
  have hsb := hs.b
  have hsq := hs.q
  have hse := hs.e
  obtain ⟨f0, f0d⟩ : ∃ f, f = dsum aFilter h.filters := ⟨_, rfl⟩
  obtain ⟨b0, b0d⟩ : ∃ f, f = dsum aBox h.boxes := ⟨_, rfl⟩
  obtain ⟨q0, q0d⟩ : ∃ f, f = dsum aFrame h.fifo := ⟨_, rfl⟩
  obtain ⟨e0, e0d⟩ : ∃ f, f = dsum aEvent h.queue := ⟨_, rfl⟩
  have hm : mHost h k = { h with filters := marks mFilter aFilter h.filters k, boxes := marks mBox aBox h.boxes (k + f0), fifo := marks mFrame aFrame h.fifo (k + f0 + b0), queue := marks mEvent aEvent h.queue (k + f0 + b0 + q0) } := by subst f0d; subst b0d; subst q0d; rfl
  have ha : (k + f0 + b0 + q0 + e0 : Int) = k + (aHost h : Nat) := by subst f0d; subst b0d; subst q0d; subst e0d; unfold aHost; push_cast; omega
  rw [hm] at hf1
  have HA : Hid _ := ha
  rw [← f0d] at hsf
  rw [← b0d] at hsb
  rw [← q0d] at hsq
  have F0 : Hid _ := f0d
  have B0 : Hid _ := b0d
  have Q0 : Hid _ := q0d
  have E0 : Hid _ := e0d
  rw [← e0d] at hse
  clear hm ha f0d b0d q0d e0d hs
  go_enter Try.func12, Try.ntmps12
  go_wp2_with fail
  have g0 : Below w.heap.size w (w.alloc (.cells #[.int .i64 h.cfg.boxes, .int .i64 h.cfg.fifo, .int .i64 h.cfg.policy, .int .i64 h.cfg.events, .slice h.fA h.filters.length h.fc, .slice h.bA h.boxes.length h.bc, .slice h.qA h.fifo.length h.qc, .slice h.eA h.queue.length h.ec, .int .i64 h.lost, .int .i64 h.stamp] 37)) := (by repeat first | with_reducible exact Below.refl _ _ | with_reducible assumption | with_reducible refine bl_alloc ?_ _ | with_reducible refine bl_drewN ?_ _ | with_reducible refine Below.drew ?_ | (refine bl_set ?_ (by simp <;> omega) _))
  refine (heldFilterS_any _ _ _ _ _ _ k0 (by omega) hz.f (by rw [← F0.out]; omega) (hf1 _ g0).f).mono ?_; rintro e w1 ⟨rfl, hb⟩
  rw [← F0.out]
  have c01 := heap_below hb (heap_new (W := w) _ _ rfl)
  have g1 := bl_then g0 hb
  clear hb g0
  obtain ⟨c10, c11, c12, c13, c14, c15, c16, c17, c18, c19, cf1⟩ := ten c01
  have C01 : Hid _ := c01
  clear c01
  go_wp2_with fail
  clear c10 c11 c12 c13 c14 c15 c16 c17 c18 c19 cf1
  refine (heldBoxS_any _ _ _ _ _ _ (by omega) (by omega) hz.b (by rw [← B0.out]; omega) hz.bd (hf1 _ g1).b).mono ?_; rintro e w2 ⟨rfl, hb⟩
  rw [← B0.out]
  have c02 := heap_below hb C01.out
  have g2 := bl_then g1 hb
  clear hb g1 C01
  obtain ⟨c10, c11, c12, c13, c14, c15, c16, c17, c18, c19, cf1⟩ := ten c02
  have C02 : Hid _ := c02
  clear c02
  go_wp2_with fail
  clear c10 c11 c12 c13 c14 c15 c16 c17 c18 c19 cf1
  refine (heldFrameS_any _ _ _ _ _ _ (by omega) (by omega) hz.q (by rw [← Q0.out]; omega) hz.qd (hf1 _ g2).q).mono ?_; rintro e w3 ⟨rfl, hb⟩
  rw [← Q0.out]
  have c03 := heap_below hb C02.out
  have g3 := bl_then g2 hb
  clear hb g2 C02
  obtain ⟨c10, c11, c12, c13, c14, c15, c16, c17, c18, c19, cf1⟩ := ten c03
  have C03 : Hid _ := c03
  clear c03
  go_wp2_with fail
  clear c10 c11 c12 c13 c14 c15 c16 c17 c18 c19 cf1
  refine (heldEventS_any _ _ _ _ _ _ (by omega) (by omega) hz.e (by rw [← E0.out]; omega) hz.ed (hf1 _ g3).e).mono ?_; rintro e w4 ⟨rfl, hb⟩
  rw [← E0.out]
  have g4 := bl_then g3 hb
  clear hb g3 C03
  go_wp2_with fail
  go_ret
  exact ⟨congrArg (fun z => Ending.returned (.int .i64 z)) HA.out, g4⟩

theorem markFrame_any (w : World) (f : LFrame) (k : Int) (k0 : 0 ≤ k) (k1 : k ≤ 1099511627776) (hd : f.data.length ≤ 4194304) (hf : FrameR True w f) :
    Calls Try.prog 18 #[.agg #[.bool f.ext, .int .u32 f.id, .bool f.rtr, .int .i64 f.dlc, .slice f.A f.data.length f.cap], .int .i64 k] w
      fun e w' => e = .returned (.int .i64 (k + f.data.length)) ∧ Chg (inBlk f.A f.data.length) w w' := by
  have hf1 := fun W (h : Below w.heap.size w W) => hf.below h
  clear hf
  go_enter Try.func18, Try.ntmps18
  go_wp2_with fail
  refine (markByteS_any _ _ _ _ _ k0 (by omega) hd (hf1 _ (by repeat first | with_reducible exact Below.refl _ _ | with_reducible assumption | with_reducible refine bl_alloc ?_ _ | with_reducible refine bl_drewN ?_ _ | with_reducible refine Below.drew ?_ | (refine bl_set ?_ (by simp <;> omega) _)))).mono ?_; rintro e w1 ⟨rfl, R, ch⟩
  go_wp2_with fail
  go_ret
  exact ⟨rfl, Chg.trans (S := inBlk f.A f.data.length) (by repeat first | with_reducible exact Chg.refl _ _ | with_reducible assumption | with_reducible refine Chg.alloc ?_ _ | with_reducible refine Chg.drewN ?_ _ | with_reducible refine Chg.drew ?_ | (refine Chg.set ?_ (by simp <;> omega) _)) ch (fun _ _ h => h)⟩

end Go.Proofs.Ytcfhjmflnochcaa
