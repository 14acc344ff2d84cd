/-
  The reference's test of a whole host.
-/
import Derived.Test.YtcfhjmflnochcaaOkB
set_option linter.unusedVariables false
set_option linter.unusedSimpArgs false
namespace Go.Proofs.Ytcfhjmflnochcaa
open Go.RowKit
variable {p q : Prop}

theorem all_succ {α β : Type} {g : α → β} {P : β → Prop} {xs : List α} {k : Nat} (hk : k < xs.length) (h : ∀ f ∈ (xs.take k).map g, P f) (h1 : P (g xs[k])) : ∀ f ∈ (xs.take (k + 1)).map g, P f := by
  rw [List.take_succ_eq_append_getElem hk, List.map_append]
  intro f hf
  rcases List.mem_append.1 hf with hf | hf
  · exact h f hf
  · simp at hf; subst hf; exact h1
theorem d_fifo {h : LHost} {k : Nat} (hk : k < h.fifo.length) (H : h.d.Ok) : h.fifo[k].d.Ok := H.fifo _ (List.mem_map_of_mem (List.getElem_mem hk))
theorem d_queue {h : LHost} {k : Nat} (hk : k < h.queue.length) (H : h.d.Ok) : h.queue[k].d.Ok := H.queue _ (List.mem_map_of_mem (List.getElem_mem hk))

def hostCells (h : LHost) : Array Value := #[.int .i64 h.cfg.boxes, .int .i64 h.cfg.fifo, .int .i64 h.cfg.policy, .int .i64 h.cfg.events, .slice h.fA h.filters.length h.fc, .slice h.bA h.boxes.length h.bc, .slice h.qA h.fifo.length h.qc, .slice h.eA h.queue.length h.ec, .int .i64 h.lost, .int .i64 h.stamp]

set_option maxHeartbeats 4000000 in
set_option maxRecDepth 100000 in
theorem l3ok_any (w : World) (h : LHost) (hz : HostSz h) (a1 a2 a3 a4 : TypeId) (H : HostR p a1 a2 a3 a4 w h) :
    Calls Try.prog 25 #[.agg #[.int .i64 h.cfg.boxes, .int .i64 h.cfg.fifo, .int .i64 h.cfg.policy, .int .i64 h.cfg.events, .slice h.fA h.filters.length h.fc, .slice h.bA h.boxes.length h.bc, .slice h.qA h.fifo.length h.qc, .slice h.eA h.queue.length h.ec, .int .i64 h.lost, .int .i64 h.stamp]] w
      fun e w' => e = .returned (.bool (decide h.d.Ok)) ∧ Below w.heap.size w w' := by
  have R : Hid _ := fun W (k : Below w.heap.size w W) => H.below k
  clear H
  have hzf := hz.f
  have hzb := hz.b
  have hzq := hz.q
  have hze := hz.e
  go_enter Try.func25, Try.ntmps25
  go_wp2_with fail
  have g0 : Below w.heap.size w (w.alloc (.cells (hostCells h) 37)) := (by repeat first | with_reducible exact Below.refl _ _ | with_reducible assumption | with_reducible refine bl_alloc ?_ _ | with_reducible refine bl_drewN ?_ _ | with_reducible refine Below.drew ?_ | (refine bl_set ?_ (by simp <;> omega) _))
  refine (l3okConfig_any _ h.cfg).mono ?_; rintro e w1 ⟨rfl, hb⟩
  have h1 := heap_below hb (heap_new (W := w) _ _ rfl)
  have g1 := bl_then g0 hb
  clear hb g0
  obtain ⟨c0, c1, c2, c3, c4, c5, c6, c7, c8, c9, cf⟩ := ten h1
  have H1 : Hid _ := h1
  clear h1
  by_cases t1 : h.cfg.Ok
  · rw [decide_eq_true t1]
    have T1 : Hid _ := t1
    clear t1
    go_wp2_with fail
    clear c0 c1 c2 c3 c4 c5 c6 c7 c8 c9 cf
    refine (l3okFilters_any _ _ _ _ _ (by omega) (R.out _ g1).f).mono ?_; rintro e w2 ⟨rfl, hb⟩
    have h2 := heap_below hb H1.out
    have g2 := bl_then g1 hb
    clear hb g1 H1
    obtain ⟨c0, c1, c2, c3, c4, c5, c6, c7, c8, c9, cf⟩ := ten h2
    have H2 : Hid _ := h2
    clear h2
    by_cases t2 : FiltersOk h.filters
    · rw [decide_eq_true t2]
      have T2 : Hid _ := t2
      clear t2
      by_cases t3 : (h.boxes.length : Int) = h.cfg.boxes ∧ (h.fifo.length : Int) ≤ h.cfg.fifo ∧ (h.queue.length : Int) ≤ h.cfg.events ∧ 0 ≤ h.lost ∧ h.lost ≤ 100000 ∧ 0 ≤ h.stamp ∧ h.stamp ≤ 1000000
      · have T3 : Hid _ := t3
        have s1 : ((h.boxes.length : Int) != h.cfg.boxes) = false := by simp; omega
        have s2 : decide (h.cfg.fifo < (h.fifo.length : Int)) = false := by simp; omega
        have s3 : decide (h.cfg.events < (h.queue.length : Int)) = false := by simp; omega
        have s4 : decide (h.lost < 0) = false := by simp; omega
        have s5 : decide (100000 < h.lost) = false := by simp; omega
        have s6 : decide (h.stamp < 0) = false := by simp; omega
        have s7 : decide (1000000 < h.stamp) = false := by simp; omega
        clear t3
        go_wp2_with fail
        clear s1 s2 s3 s4 s5 s6 s7 c0 c1 c2 c3 c4 c5 c6 c7 c8 c9 cf
        go_loopw [3] (fun i wr => ∃ k : Nat, k ≤ h.fifo.length ∧ i = .int .i64 k ∧ wr.heap[w.heap.size]? = some (.cells (hostCells h) 37 (0, 0)) ∧ Below w.heap.size w wr ∧ Hid (∀ f ∈ (h.fifo.take k).map LFrame.d, f.Ok)) (fun i _ => h.fifo.length - (intOf i).toNat)
        case atStart => exact ⟨0, by omega, rfl, H2.out, g2, by simp [Hid]⟩
        case round =>
          obtain ⟨k, hk, rfl, hh, hb, hp⟩ := hrel
          obtain ⟨c0, c1, c2, c3, c4, c5, c6, c7, c8, c9, cf⟩ := ten hh
          have HH : Hid _ := hh
          clear hh H2 g2
          by_cases hlt : k < h.fifo.length
          · have H0 := (R.out wr hb).q.1
            obtain ⟨g, o, hA, hg, ⟨d0, d1, d2, d3, d4⟩⟩ := frameAt H0 k hlt
            rw [hA] at c6
            have HD : Hid _ := hz.qd _ (List.getElem_mem hlt)
            have HA : Hid _ := hA
            clear H0 hA
            obtain ⟨x, hx⟩ : ∃ x, x = h.fifo[k] := ⟨_, rfl⟩
            rw [← hx] at d0 d1 d2 d3 d4 HD
            have HX : Hid _ := hx
            clear hx
            go_wp2_with fail
            clear d0 d1 d2 d3 d4 c0 c1 c2 c3 c4 c5 c6 c7 c8 c9 cf
            refine (ValidFrame_any _ x (by have := HD.out; omega)).mono ?_; rintro e w3 ⟨rfl, hbb⟩
            have h3 := heap_below hbb HH.out
            have g3 := bl_then hb hbb
            clear hb hbb HH
            by_cases t4 : x.d.Ok
            · rw [decide_eq_true t4]
              have T4 : Hid _ := t4
              have H3 : Hid _ := h3
              clear t4 h3
              go_wp2_with fail
              go_roundw
              case rel => exact ⟨k + 1, by omega, by go_num, H3.out, g3, all_succ hlt hp (by rw [← HX.out]; exact T4.out)⟩
              case measure => simp [intOf]; omega
            · rw [decide_eq_false t4]
              have T4 : Hid _ := t4
              clear t4
              go_wp2_with fail
              go_ret
              exact ⟨ret_ne (fun h => T4.out (by rw [HX.out]; exact d_fifo hlt h)), g3⟩
          · have HE : Hid _ := hlt
            go_wp2_with fail
            clear c0 c1 c2 c3 c4 c5 c6 c7 c8 c9 cf
            have HP1 : Hid (∀ f ∈ h.fifo.map LFrame.d, f.Ok) := by have := hp.out; rwa [List.take_of_length_le (by have := HE.out; omega)] at this
            clear hp HE
            go_loopw [4] (fun i wr => ∃ k : Nat, k ≤ h.queue.length ∧ i = .int .i64 k ∧ wr.heap[w.heap.size]? = some (.cells (hostCells h) 37 (0, 0)) ∧ Below w.heap.size w wr ∧ Hid (∀ f ∈ (h.queue.take k).map LEvent.d, f.Ok)) (fun i _ => h.queue.length - (intOf i).toNat)
            case atStart => exact ⟨0, by omega, rfl, HH.out, hb, by simp [Hid]⟩
            case round =>
              clear HH hb
              obtain ⟨k, hk, rfl, hh, hb, hp⟩ := hrel
              obtain ⟨c0, c1, c2, c3, c4, c5, c6, c7, c8, c9, cf⟩ := ten hh
              have zh := lt_of_heap hh
              have HH : Hid _ := hh
              clear hh
              by_cases hlt : k < h.queue.length
              · have H0 := (R.out wr hb).e.1
                obtain ⟨g, o, hA, hg, ⟨d0, d1, d2, d3, d4, d5, d6, d7⟩⟩ := eventAt H0 k hlt
                rw [hA] at c7
                have HD : Hid _ := hz.ed _ (List.getElem_mem hlt)
                have HA : Hid _ := hA
                clear H0 hA
                obtain ⟨x, hx⟩ : ∃ x, x = h.queue[k] := ⟨_, rfl⟩
                rw [← hx] at d0 d1 d2 d3 d4 d5 d6 d7 HD
                have HX : Hid _ := hx
                clear hx
                by_cases hn : 1 ≤ x.kind ∧ x.kind ≤ 12 ∧ 0 ≤ x.a ∧ x.a ≤ 9999 ∧ 0 ≤ x.b ∧ x.b ≤ 9
                · have HN : Hid _ := hn
                  have q1 : decide (x.kind < 1) = false := decide_eq_false (by omega)
                  have q2 : decide (12 < x.kind) = false := decide_eq_false (by omega)
                  have q3 : decide (x.a < 0) = false := decide_eq_false (by omega)
                  have q4 : decide (9999 < x.a) = false := decide_eq_false (by omega)
                  have q5 : decide (x.b < 0) = false := decide_eq_false (by omega)
                  have q6 : decide (9 < x.b) = false := decide_eq_false (by omega)
                  clear hn
                  go_wp2_with fail
                  refine (l3zeroFrame_any _ x.f).mono ?_; rintro e w1 ⟨rfl, hbb⟩
                  have hb1 := bl_then (bl_alloc hb _) hbb
                  have hh1 := heap_below hbb (heap_old _ HH.out)
                  have hx1 := heap_below hbb (heap_new (W := wr) _ _ rfl)
                  clear c0 c1 c2 c3 c4 c5 c6 c7 c8 c9 cf d0 d1 d2 d3 d4 d5 d6 d7 hbb HH hb
                  by_cases t5 : x.f.d = DFrame.zero
                  · rw [decide_eq_true t5]
                    have T5 : Hid _ := t5
                    clear t5
                    have H3 : Hid _ := hh1
                    clear hh1 hx1
                    go_wp2_with fail
                    go_roundw
                    case rel => exact ⟨k + 1, by omega, by go_num, H3.out, hb1, all_succ hlt hp (by rw [← HX.out]; obtain ⟨a1, a2, a3, a4, a5, a6⟩ := HN.out; exact ⟨a1, a2, a3, a4, a5, a6, .inl T5.out⟩)⟩
                    case measure => simp [intOf]; omega
                  · rw [decide_eq_false t5]
                    have T5 : Hid _ := t5
                    clear t5
                    obtain ⟨d0, d1, d2, d3, d4, d5, d6, d7, df⟩ := eight hx1
                    have H3 : Hid _ := hh1
                    clear hh1 hx1
                    go_wp2_with fail
                    clear d0 d1 d2 d3 d4 d5 d6 d7 df
                    refine (ValidFrame_any _ x.f (by have := HD.out; omega)).mono ?_; rintro e w3 ⟨rfl, hbb⟩
                    have h3 := heap_below hbb H3.out
                    have g3 := bl_then hb1 hbb
                    clear hb1 hbb H3
                    by_cases t4 : x.f.d.Ok
                    · rw [decide_eq_true t4]
                      have T4 : Hid _ := t4
                      have H3 : Hid _ := h3
                      clear t4 h3
                      go_wp2_with fail
                      go_roundw
                      case rel => exact ⟨k + 1, by omega, by go_num, H3.out, g3, all_succ hlt hp (by rw [← HX.out]; obtain ⟨a1, a2, a3, a4, a5, a6⟩ := HN.out; exact ⟨a1, a2, a3, a4, a5, a6, .inr T4.out⟩)⟩
                      case measure => simp [intOf]; omega
                    · rw [decide_eq_false t4]
                      have T4 : Hid _ := t4
                      clear t4
                      go_wp2_with fail
                      go_ret
                      exact ⟨ret_ne (fun h => by
                        have h := d_queue hlt h
                        rw [← HX.out] at h
                        rcases h.2.2.2.2.2.2 with h | h
                        · exact T5.out h
                        · exact T4.out h), g3⟩
                · have HN : Hid _ := hn
                  clear hn
                  go_wp2_with fail
                  all_goals first
                    | (exfalso; apply HN.out; omega)
                    | (go_ret
                       refine ⟨ret_ne (fun h => HN.out ?_), (by repeat first | with_reducible exact Below.refl _ _ | with_reducible assumption | with_reducible refine bl_alloc ?_ _ | with_reducible refine bl_drewN ?_ _ | with_reducible refine Below.drew ?_ | (refine bl_set ?_ (by simp <;> omega) _))⟩
                       have h := d_queue hlt h
                       rw [← HX.out] at h
                       obtain ⟨a1, a2, a3, a4, a5, a6, _⟩ := h
                       exact ⟨a1, a2, a3, a4, a5, a6⟩)
              · have HE : Hid _ := hlt
                go_wp2_with fail
                clear c0 c1 c2 c3 c4 c5 c6 c7 c8 c9 cf
                have HP2 : Hid (∀ f ∈ h.queue.map LEvent.d, f.Ok) := by have := hp.out; rwa [List.take_of_length_le (by have := HE.out; omega)] at this
                refine (l3okBoxes_any _ h (by omega) (fun x hx => by have := hz.bd x hx; omega) _ (R.out _ hb).b).mono ?_; rintro e w3 ⟨rfl, hbb⟩
                have g3 := bl_then hb hbb
                clear hb hbb HH
                go_wp2_with fail
                go_ret
                refine ⟨congrArg (fun z => Ending.returned (.bool z)) (decide_eq_decide.2 ?_), g3⟩
                rw [DHost.ok_iff]
                obtain ⟨a3, a4, a5, a6, a7, a8, a9⟩ := T3.out
                exact ⟨fun b => ⟨T1.out, T2.out, by simpa [LHost.d] using a3, by simpa [LHost.d] using a4, by simpa [LHost.d] using a5, a6, a7, a8, a9, HP1.out, HP2.out, b⟩, fun b => b.2.2.2.2.2.2.2.2.2.2.2⟩
      · have T3 : Hid _ := t3
        clear t3
        go_wp2_with fail
        all_goals first
          | (exfalso; apply T3.out; simp only [bne_eq_false_iff_eq] at *; omega)
          | (go_ret
             refine ⟨ret_ne (fun k => T3.out ?_), g2⟩
             obtain ⟨_, _, a3, a4, a5, a6, a7, a8, a9, _⟩ := k
             simp [LHost.d] at a3 a4 a5 a6 a7 a8 a9
             exact ⟨a3, a4, a5, a6, a7, a8, a9⟩)
    · rw [decide_eq_false t2]
      have T2 : Hid _ := t2
      clear t2
      go_wp2_with fail
      go_ret
      exact ⟨ret_ne (fun h => T2.out h.filters), g2⟩
  · rw [decide_eq_false t1]
    have T1 : Hid _ := t1
    clear t1
    go_wp2_with fail
    go_ret
    exact ⟨ret_ne (fun h => T1.out h.cfg), g1⟩
end Go.Proofs.Ytcfhjmflnochcaa
