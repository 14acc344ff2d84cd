/-
  The program's test of a whole host.
-/
import Derived.Test.YtcfhjmflnochcaaOkM
set_option linter.unusedVariables false
set_option linter.unusedSimpArgs false
namespace Go.Proofs.Ytcfhjmflnochcaa
open Go.RowKit
variable {p q : Prop}

theorem ok_split (h : DHost) : h.Ok ↔ h.cfg.Ok ∧ FiltersOk h.filters ∧ (0 ≤ h.lost ∧ h.lost ≤ 100000 ∧ 0 ≤ h.stamp ∧ h.stamp ≤ 1000000) ∧ h.ListsOk ∧ BoxesOk h.stamp h.boxes := by
  rw [DHost.ok_iff]
  unfold DHost.ListsOk
  constructor
  · rintro ⟨h1, h2, h3, h4, h5, h6, h7, h8, h9, h10, h11, h12⟩
    exact ⟨h1, h2, ⟨h6, h7, h8, h9⟩, ⟨h3, h4, h5, h10, h11⟩, h12⟩
  · rintro ⟨h1, h2, ⟨h6, h7, h8, h9⟩, ⟨h3, h4, h5, h10, h11⟩, h12⟩
    exact ⟨h1, h2, h3, h4, h5, h6, h7, h8, h9, h10, h11, h12⟩

set_option maxHeartbeats 4000000 in
set_option maxRecDepth 100000 in
theorem goodHost_any (w : World) (h : LHost) (hz : HostSz h) (a1 a2 a3 a4 : TypeId) (H : HostR p a1 a2 a3 a4 w h) :
    Calls Try.prog 33 #[.agg #[.int .i64 h.cfg.boxes, .int .i64 h.cfg.fifo, .int .i64 h.cfg.policy, .int .i64 h.cfg.events, .slice h.fA h.filters.length h.fc, .slice h.bA h.boxes.length h.bc, .slice h.qA h.fifo.length h.qc, .slice h.eA h.queue.length h.ec, .int .i64 h.lost, .int .i64 h.stamp]] w
      fun e w' => e = .returned (.bool (decide h.d.Ok)) ∧ Below w.heap.size w w' := by
  have R : Hid _ := fun W (k : Below w.heap.size w W) => H.below k
  clear H
  have hzf := hz.f
  go_enter Try.func33, Try.ntmps33
  go_wp2_with fail
  refine (goodConfig_any _ h.cfg).mono ?_; rintro e w1 ⟨rfl, hb⟩
  have h1 := heap_below hb (heap_new (W := w) (.cells (hostCells h) 37) _ rfl)
  have g1 := bl_then (w := w) (by exact (by repeat first | with_reducible exact Below.refl _ _ | with_reducible assumption | with_reducible refine bl_alloc ?_ _ | with_reducible refine bl_drewN ?_ _ | with_reducible refine Below.drew ?_ | (refine bl_set ?_ (by simp <;> omega) _))) hb
  clear hb
  obtain ⟨c0, c1, c2, c3, c4, c5, c6, c7, c8, c9, cf⟩ := ten h1
  have H1 : Hid _ := h1
  clear h1
  by_cases t1 : h.cfg.Ok
  · rw [decide_eq_true t1]
    have T1 : Hid _ := t1
    clear t1
    go_wp2_with fail
    clear c0 c1 c2 c3 c4 c5 c6 c7 c8 c9 cf
    refine (goodFilters_any _ _ _ _ _ (by omega) (R.out _ g1).f).mono ?_; rintro e w2 ⟨rfl, hb⟩
    have h2 := heap_below hb H1.out
    have g2 := bl_then g1 hb
    clear hb g1 H1
    obtain ⟨c0, c1, c2, c3, c4, c5, c6, c7, c8, c9, cf⟩ := ten h2
    have H2 : Hid _ := h2
    clear h2
    by_cases t2 : FiltersOk h.filters
    · rw [decide_eq_true t2]
      have T2 : Hid _ := t2
      clear t2
      by_cases u1 : 0 ≤ h.lost
      · have s4 : decide (h.lost < 0) = false := by simp; omega
        by_cases u2 : h.lost ≤ 100000
        · have s5 : decide (100000 < h.lost) = false := by simp; omega
          by_cases u3 : 0 ≤ h.stamp
          · have s6 : decide (h.stamp < 0) = false := by simp; omega
            by_cases u4 : h.stamp ≤ 1000000
            · have s7 : decide (1000000 < h.stamp) = false := by simp; omega
              have T3 : Hid (0 ≤ h.lost ∧ h.lost ≤ 100000 ∧ 0 ≤ h.stamp ∧ h.stamp ≤ 1000000) := ⟨u1, u2, u3, u4⟩
              go_wp2_with fail
              clear c0 c1 c2 c3 c4 c5 c6 c7 c8 c9 cf
              refine (goodLists_any _ h hz _ _ _ _ (R.out _ g2)).mono ?_; rintro e w3 ⟨rfl, hb⟩
              have h3 := heap_below hb H2.out
              have g3 := bl_then g2 hb
              clear hb g2 H2
              obtain ⟨c0, c1, c2, c3, c4, c5, c6, c7, c8, c9, cf⟩ := ten h3
              clear h3
              by_cases t4 : h.d.ListsOk
              · rw [decide_eq_true t4]
                have T4 : Hid _ := t4
                clear t4
                go_wp2_with fail
                clear c0 c1 c2 c3 c4 c5 c6 c7 c8 c9 cf
                refine (goodBoxes_any _ h hz u4 _ _ _ _ (R.out _ g3)).mono ?_; rintro e w4 ⟨rfl, hb⟩
                have g4 := bl_then g3 hb
                clear hb g3
                go_wp2_with fail
                go_ret
                exact ⟨congrArg (fun z => Ending.returned (.bool z)) (decide_eq_decide.2 (by rw [ok_split]; exact ⟨fun b => ⟨T1.out, T2.out, T3.out, T4.out, b⟩, fun b => b.2.2.2.2⟩)), g4⟩
              · rw [decide_eq_false t4]
                have T4 : Hid _ := t4
                clear t4
                go_wp2_with fail
                go_ret
                exact ⟨ret_ne (fun h => T4.out ((ok_split _).1 h).2.2.2.1), g3⟩
            · have s7 : decide (1000000 < h.stamp) = true := by simp; omega
              have T4 : Hid _ := u4
              clear u4
              go_wp2_with fail
              go_ret
              exact ⟨ret_ne (fun h => T4.out h.s1), g2⟩
          · have s6 : decide (h.stamp < 0) = true := by simp; omega
            have T4 : Hid _ := u3
            clear u3
            go_wp2_with fail
            go_ret
            exact ⟨ret_ne (fun h => T4.out h.s0), g2⟩
        · have s5 : decide (100000 < h.lost) = true := by simp; omega
          have T4 : Hid _ := u2
          clear u2
          go_wp2_with fail
          go_ret
          exact ⟨ret_ne (fun h => T4.out h.l1), g2⟩
      · have s4 : decide (h.lost < 0) = true := by simp; omega
        have T4 : Hid _ := u1
        clear u1
        go_wp2_with fail
        go_ret
        exact ⟨ret_ne (fun h => T4.out h.l0), g2⟩
    · rw [decide_eq_false t2]
      have T2 : Hid _ := t2
      clear t2
      go_wp2_with fail
      go_ret
      exact ⟨ret_ne (fun h => T2.out h.filters), g2⟩
  · rw [decide_eq_false t1]
    have T1 : Hid _ := t1
    clear t1
    go_wp2_with fail
    go_ret
    exact ⟨ret_ne (fun h => T1.out h.cfg), g1⟩
end Go.Proofs.Ytcfhjmflnochcaa
