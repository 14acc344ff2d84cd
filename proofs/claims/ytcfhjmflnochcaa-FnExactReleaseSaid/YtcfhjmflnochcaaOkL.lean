/-
  The program's test of a host's lists.
-/
import Derived.Test.YtcfhjmflnochcaaOkI
import Derived.Test.YtcfhjmflnochcaaRelS
set_option linter.unusedVariables false
set_option linter.unusedSimpArgs false
namespace Go.Proofs.Ytcfhjmflnochcaa
open Go.RowKit
variable {p q : Prop}

/-- The lists' part of a host's soundness. -/
def DHost.ListsOk (h : DHost) : Prop := (h.boxes.length : Int) = h.cfg.boxes ∧ (h.fifo.length : Int) ≤ h.cfg.fifo ∧ (h.queue.length : Int) ≤ h.cfg.events ∧ (∀ f ∈ h.fifo, f.Ok) ∧ (∀ e ∈ h.queue, e.Ok)
instance (h : DHost) : Decidable h.ListsOk := by unfold DHost.ListsOk; infer_instance
theorem l_fifo {h : LHost} {k : Nat} (hk : k < h.fifo.length) (H : h.d.ListsOk) : h.fifo[k].d.Ok := H.2.2.2.1 _ (List.mem_map_of_mem (List.getElem_mem hk))
theorem l_queue {h : LHost} {k : Nat} (hk : k < h.queue.length) (H : h.d.ListsOk) : h.queue[k].d.Ok := H.2.2.2.2 _ (List.mem_map_of_mem (List.getElem_mem hk))

set_option maxRecDepth 100000 in
theorem zeroFrameI_any (w : World) (f : LFrame) (lx : f.data.length ≤ 1099511627776) (hf : FrameR p w f) :
    Calls Try.prog 94 #[.agg #[.bool f.ext, .int .u32 f.id, .bool f.rtr, .int .i64 f.dlc, .slice f.A f.data.length f.cap]] w
      fun e w' => e = .returned (.bool (decide (f.d = DFrame.zero))) ∧ Below w.heap.size w w' := by
  have R : Hid _ := fun W (h : Below w.heap.size w W) => hf.below h
  clear hf
  go_enter Try.func94, Try.ntmps94
  go_wp2_with fail
  refine (sameFrame_any (q := True) _ f LFrame.zero lx (by simp [LFrame.zero]) (R.out _ (by exact (by repeat first | with_reducible exact Below.refl _ _ | with_reducible assumption | with_reducible refine bl_alloc ?_ _ | with_reducible refine bl_drewN ?_ _ | with_reducible refine Below.drew ?_ | (refine bl_set ?_ (by simp <;> omega) _)))) (.inl rfl)).mono ?_; rintro e w1 ⟨rfl, hb⟩
  have g1 : Below w.heap.size w w1 := bl_then (by repeat first | with_reducible exact Below.refl _ _ | with_reducible assumption | with_reducible refine bl_alloc ?_ _ | with_reducible refine bl_drewN ?_ _ | with_reducible refine Below.drew ?_ | (refine bl_set ?_ (by simp <;> omega) _)) hb
  clear hb
  go_wp2_with fail
  go_ret
  exact ⟨rfl, g1⟩

set_option maxHeartbeats 4000000 in
set_option maxRecDepth 100000 in
theorem goodLists_any (w : World) (h : LHost) (hz : HostSz h) (a1 a2 a3 a4 : TypeId) (H : HostR p a1 a2 a3 a4 w h) :
    Calls Try.prog 76 #[.agg #[.int .i64 h.cfg.boxes, .int .i64 h.cfg.fifo, .int .i64 h.cfg.policy, .int .i64 h.cfg.events, .slice h.fA h.filters.length h.fc, .slice h.bA h.boxes.length h.bc, .slice h.qA h.fifo.length h.qc, .slice h.eA h.queue.length h.ec, .int .i64 h.lost, .int .i64 h.stamp]] w
      fun e w' => e = .returned (.bool (decide h.d.ListsOk)) ∧ Below w.heap.size w w' := by
  have R : Hid _ := fun W (k : Below w.heap.size w W) => H.below k
  clear H
  have hzf := hz.f
  have hzb := hz.b
  have hzq := hz.q
  have hze := hz.e
  have g0 : Below w.heap.size w (w.alloc (.cells (hostCells h) 37)) := (by repeat first | with_reducible exact Below.refl _ _ | with_reducible assumption | with_reducible refine bl_alloc ?_ _ | with_reducible refine bl_drewN ?_ _ | with_reducible refine Below.drew ?_ | (refine bl_set ?_ (by simp <;> omega) _))
  by_cases t3 : (h.boxes.length : Int) = h.cfg.boxes ∧ (h.fifo.length : Int) ≤ h.cfg.fifo ∧ (h.queue.length : Int) ≤ h.cfg.events
  · have T3 : Hid _ := t3
    have s1 : ((h.boxes.length : Int) != h.cfg.boxes) = false := by simp; omega
    have s2 : decide (h.cfg.fifo < (h.fifo.length : Int)) = false := by simp; omega
    have s3 : decide (h.cfg.events < (h.queue.length : Int)) = false := by simp; omega
    clear t3
    have G0 : Hid _ := g0
    clear g0
    go_enter Try.func76, Try.ntmps76
    go_wp2_with fail
    clear s1 s2 s3
    go_loopw [35] (fun i wr => ∃ k : Nat, k ≤ h.fifo.length ∧ i = .int .i64 k ∧ wr.heap[w.heap.size]? = some (.cells (hostCells h) 37 (0, 0)) ∧ Below w.heap.size w wr ∧ Hid (∀ f ∈ (h.fifo.take k).map LFrame.d, f.Ok)) (fun i _ => h.fifo.length - (intOf i).toNat)
    case atStart => exact ⟨0, by omega, rfl, heap_new _ _ rfl, G0.out, by simp [Hid]⟩
    case round =>
      obtain ⟨k, hk, rfl, hh, hb, hp⟩ := hrel
      obtain ⟨c0, c1, c2, c3, c4, c5, c6, c7, c8, c9, cf⟩ := ten hh
      have HH : Hid _ := hh
      clear hh G0
      by_cases hlt : k < h.fifo.length
      · have H0 := (R.out wr hb).q.1
        obtain ⟨g, o, hA, hg, ⟨d0, d1, d2, d3, d4⟩⟩ := frameAt H0 k hlt
        rw [hA]
        have HD : Hid _ := hz.qd _ (List.getElem_mem hlt)
        have HA : Hid _ := hA
        clear H0 hA
        obtain ⟨x, hx⟩ : ∃ x, x = h.fifo[k] := ⟨_, rfl⟩
        rw [← hx] at d0 d1 d2 d3 d4 HD
        have HX : Hid _ := hx
        clear hx
        go_wp2_with fail
        clear d0 d1 d2 d3 d4 c0 c1 c2 c3 c4 c5 c6 c7 c8 c9 cf
        refine (ValidFrameI_any _ x (by have := HD.out; omega)).mono ?_; rintro e w3 ⟨rfl, hbb⟩
        have h3 := heap_below hbb (heap_old _ HH.out)
        have g3 := bl_then (bl_alloc hb _) hbb
        clear hb hbb HH
        by_cases t4 : x.d.Ok
        · rw [decide_eq_true t4]
          have T4 : Hid _ := t4
          have H3 : Hid _ := h3
          clear t4 h3
          go_wp2_with fail
          go_roundw
          case rel => exact ⟨k + 1, by omega, by go_num, H3.out, g3, all_succ hlt hp (by rw [← HX.out]; exact T4.out)⟩
          case measure => simp [intOf]; omega
        · rw [decide_eq_false t4]
          have T4 : Hid _ := t4
          clear t4
          go_wp2_with fail
          go_ret
          exact ⟨ret_ne (fun h => T4.out (by rw [HX.out]; exact l_fifo hlt h)), g3⟩
      · have HE : Hid _ := hlt
        go_wp2_with fail
        clear c0 c1 c2 c3 c4 c5 c6 c7 c8 c9 cf
        have HP1 : Hid (∀ f ∈ h.fifo.map LFrame.d, f.Ok) := by have := hp.out; rwa [List.take_of_length_le (by have := HE.out; omega)] at this
        clear hp HE
        go_loopw [46] (fun i wr => ∃ k : Nat, k ≤ h.queue.length ∧ i = .int .i64 k ∧ Below w.heap.size w wr ∧ Hid (∀ f ∈ (h.queue.take k).map LEvent.d, f.Ok)) (fun i _ => h.queue.length - (intOf i).toNat)
        case atStart => exact ⟨0, by omega, rfl, hb, by simp [Hid]⟩
        case round =>
          clear HH hb
          obtain ⟨k, hk, rfl, hb, hp⟩ := hrel
          by_cases hlt : k < h.queue.length
          · have H0 := (R.out wr hb).e.1
            obtain ⟨g, o, hA, hg, ⟨d0, d1, d2, d3, d4, d5, d6, d7⟩⟩ := eventAt H0 k hlt
            rw [hA]
            have HD : Hid _ := hz.ed _ (List.getElem_mem hlt)
            have HF : Hid _ := (R.out wr hb).e.2 _ (List.getElem_mem hlt)
            have HA : Hid _ := hA
            clear H0 hA
            obtain ⟨x, hx⟩ : ∃ x, x = h.queue[k] := ⟨_, rfl⟩
            rw [← hx] at d0 d1 d2 d3 d4 d5 d6 d7 HD HF
            have HX : Hid _ := hx
            clear hx
            by_cases hn : 1 ≤ x.kind ∧ x.kind ≤ 12 ∧ 0 ≤ x.a ∧ x.a ≤ 9999 ∧ 0 ≤ x.b ∧ x.b ≤ 9
            · have HN : Hid _ := hn
              have q1 : decide (x.kind < 1) = false := decide_eq_false (by omega)
              have q2 : decide (12 < x.kind) = false := decide_eq_false (by omega)
              have q3 : decide (x.a < 0) = false := decide_eq_false (by omega)
              have q4 : decide (9999 < x.a) = false := decide_eq_false (by omega)
              have q5 : decide (x.b < 0) = false := decide_eq_false (by omega)
              have q6 : decide (9 < x.b) = false := decide_eq_false (by omega)
              clear hn
              go_wp2_with fail
              refine (zeroFrameI_any _ x.f (by have := HD.out; omega) (HF.out.below (by exact (by repeat first | with_reducible exact Below.refl _ _ | with_reducible assumption | with_reducible refine bl_alloc ?_ _ | with_reducible refine bl_drewN ?_ _ | with_reducible refine Below.drew ?_ | (refine bl_set ?_ (by simp <;> omega) _))))).mono ?_; rintro e w1 ⟨rfl, hbb⟩
              have hb1 := bl_then (bl_alloc hb _) hbb
              have hx1 := heap_below hbb (heap_new (W := wr) _ _ rfl)
              clear d0 d1 d2 d3 d4 d5 d6 d7 hbb hb
              by_cases t5 : x.f.d = DFrame.zero
              · rw [decide_eq_true t5]
                have T5 : Hid _ := t5
                clear t5 hx1
                go_wp2_with fail
                go_roundw
                case rel => exact ⟨k + 1, by omega, by go_num, hb1, all_succ hlt hp (by rw [← HX.out]; obtain ⟨a1, a2, a3, a4, a5, a6⟩ := HN.out; exact ⟨a1, a2, a3, a4, a5, a6, .inl T5.out⟩)⟩
                case measure => simp [intOf]; omega
              · rw [decide_eq_false t5]
                have T5 : Hid _ := t5
                clear t5
                obtain ⟨d0, d1, d2, d3, d4, d5, d6, d7, df⟩ := eight hx1
                clear hx1
                go_wp2_with fail
                clear d0 d1 d2 d3 d4 d5 d6 d7 df
                refine (ValidFrameI_any _ x.f (by have := HD.out; omega)).mono ?_; rintro e w3 ⟨rfl, hbb⟩
                have g3 := bl_then hb1 hbb
                clear hb1 hbb
                by_cases t4 : x.f.d.Ok
                · rw [decide_eq_true t4]
                  have T4 : Hid _ := t4
                  clear t4
                  go_wp2_with fail
                  go_roundw
                  case rel => exact ⟨k + 1, by omega, by go_num, g3, all_succ hlt hp (by rw [← HX.out]; obtain ⟨a1, a2, a3, a4, a5, a6⟩ := HN.out; exact ⟨a1, a2, a3, a4, a5, a6, .inr T4.out⟩)⟩
                  case measure => simp [intOf]; omega
                · rw [decide_eq_false t4]
                  have T4 : Hid _ := t4
                  clear t4
                  go_wp2_with fail
                  go_ret
                  exact ⟨ret_ne (fun h => by
                    have h := l_queue hlt h
                    rw [← HX.out] at h
                    rcases h.2.2.2.2.2.2 with h | h
                    · exact T5.out h
                    · exact T4.out h), g3⟩
            · have HN : Hid _ := hn
              clear hn
              go_wp2_with fail
              all_goals first
                | (exfalso; apply HN.out; omega)
                | (go_ret
                   refine ⟨ret_ne (fun h => HN.out ?_), (by repeat first | with_reducible exact Below.refl _ _ | with_reducible assumption | with_reducible refine bl_alloc ?_ _ | with_reducible refine bl_drewN ?_ _ | with_reducible refine Below.drew ?_ | (refine bl_set ?_ (by simp <;> omega) _))⟩
                   have h := l_queue hlt h
                   rw [← HX.out] at h
                   obtain ⟨a1, a2, a3, a4, a5, a6, _⟩ := h
                   exact ⟨a1, a2, a3, a4, a5, a6⟩)
          · have HE : Hid _ := hlt
            go_wp2_with fail
            go_ret
            have HP2 : ∀ f ∈ h.queue.map LEvent.d, f.Ok := by have := hp.out; rwa [List.take_of_length_le (by have := HE.out; omega)] at this
            obtain ⟨a3, a4, a5⟩ := T3.out
            exact ⟨ret_eq ⟨by simpa [LHost.d] using a3, by simpa [LHost.d] using a4, by simpa [LHost.d] using a5, HP1.out, HP2⟩, hb⟩
  · have T3 : Hid (¬ h.d.ListsOk) := fun k => t3 (by
      obtain ⟨a3, a4, a5, _⟩ := k
      simp [LHost.d] at a3 a4 a5
      exact ⟨a3, a4, a5⟩)
    have G0 : Hid _ := g0
    clear g0
    by_cases t1 : (h.boxes.length : Int) = h.cfg.boxes
    · have s1 : ((h.boxes.length : Int) != h.cfg.boxes) = false := by simp; omega
      by_cases t2 : (h.fifo.length : Int) ≤ h.cfg.fifo
      · have s2 : decide (h.cfg.fifo < (h.fifo.length : Int)) = false := by simp; omega
        have s3 : decide (h.cfg.events < (h.queue.length : Int)) = true := by simp; omega
        clear t1 t2 t3
        go_enter Try.func76, Try.ntmps76
        go_wp2_with fail
        go_ret
        exact ⟨ret_ne T3.out, G0.out⟩
      · have s2 : decide (h.cfg.fifo < (h.fifo.length : Int)) = true := by simp; omega
        clear t1 t2 t3
        go_enter Try.func76, Try.ntmps76
        go_wp2_with fail
        go_ret
        exact ⟨ret_ne T3.out, G0.out⟩
    · have s1 : ((h.boxes.length : Int) != h.cfg.boxes) = true := by simp; omega
      clear t1 t3
      go_enter Try.func76, Try.ntmps76
      go_wp2_with fail
      go_ret
      exact ⟨ret_ne T3.out, G0.out⟩
end Go.Proofs.Ytcfhjmflnochcaa
