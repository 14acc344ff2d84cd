/-
  The reference's test of a host's boxes, and of a whole host.
-/
import Derived.Test.YtcfhjmflnochcaaOkS
import Derived.Test.YtcfhjmflnochcaaHeldHost
set_option linter.unusedVariables false
set_option linter.unusedSimpArgs false
namespace Go.Proofs.Ytcfhjmflnochcaa
open Go.RowKit
variable {p q : Prop}

theorem boxes1_succ {st : Int} {xs : List LBox} {k : Nat} (hk : k < xs.length) (h : Boxes1 st ((xs.take k).map LBox.d)) (h1 : xs[k].d.Ok st) (h2 : ∀ y ∈ (xs.take k).map LBox.d, Beside y xs[k].d) : Boxes1 st ((xs.take (k + 1)).map LBox.d) := by
  rw [List.take_succ_eq_append_getElem hk, List.map_append]
  refine ⟨fun b hb => ?_, List.pairwise_append.2 ⟨h.2, by simp, fun a ha b hb => by simp at hb; subst hb; exact h2 a ha⟩⟩
  rcases List.mem_append.1 hb with hb | hb
  · exact h.1 b hb
  · simp at hb; subst hb; exact h1
theorem boxes1_not {st : Int} {xs : List LBox} {k : Nat} (hk : k < xs.length) (h1 : ¬ xs[k].d.Ok st) : ¬ BoxesOk st (xs.map LBox.d) := fun h => h1 (h.1.1 _ (List.mem_map_of_mem (List.getElem_mem hk)))
theorem boxes1_not2 {st : Int} {xs : List LBox} {j k : Nat} (hj : j < k) (hk : k < xs.length) (h1 : ¬ Beside (xs[j]'(by omega)).d xs[k].d) : ¬ BoxesOk st (xs.map LBox.d) := fun h => by
  have := List.pairwise_iff_getElem.1 h.1.2 j k (by simp; omega) (by simpa using hk) hj
  simp at this
  exact h1 this
theorem count_succ {xs : List LBox} {k m : Nat} (hk : k < xs.length) (h : m = ((xs.take k).map LBox.d).countP DBox.isBusy) : (if xs[k].d.isBusy then m + 1 else m) = ((xs.take (k + 1)).map LBox.d).countP DBox.isBusy := by
  rw [List.take_succ_eq_append_getElem hk, List.map_append, List.countP_append, ← h]
  simp [List.countP_cons]
  split <;> rfl

theorem beside_succ {xs : List LBox} {x : DBox} {j : Nat} (hj : j < xs.length) (h : ∀ y ∈ (xs.take j).map LBox.d, Beside y x) (h1 : Beside xs[j].d x) : ∀ y ∈ (xs.take (j + 1)).map LBox.d, Beside y x := by
  rw [List.take_succ_eq_append_getElem hj, List.map_append]
  intro y hy
  rcases List.mem_append.1 hy with hy | hy
  · exact h y hy
  · simp at hy; subst hy; exact h1
theorem heap_drewN {w : World} {b : Nat} {x : Obj} (h : w.heap[b]? = some x) (n : Nat) : (w.drewN n).heap[b]? = some x := h
set_option maxHeartbeats 4000000 in
set_option maxRecDepth 100000 in
theorem l3okBoxes_any (w : World) (h : LHost) (lb : h.boxes.length ≤ 1099511627776) (ld : ∀ x ∈ h.boxes, x.f.data.length ≤ 1099511627776) (e1 : TypeId) (H : BoxesR p w e1 h.bA h.boxes) :
    Calls Try.prog 64 #[.agg #[.int .i64 h.cfg.boxes, .int .i64 h.cfg.fifo, .int .i64 h.cfg.policy, .int .i64 h.cfg.events, .slice h.fA h.filters.length h.fc, .slice h.bA h.boxes.length h.bc, .slice h.qA h.fifo.length h.qc, .slice h.eA h.queue.length h.ec, .int .i64 h.lost, .int .i64 h.stamp]] w
      fun e w' => e = .returned (.bool (decide (BoxesOk h.stamp (h.boxes.map LBox.d)))) ∧ Below w.heap.size w w' := by
  have hf1 := fun W (k : Below w.heap.size w W) => H.below k
  clear H
  obtain ⟨cfg, fA, fc, filters, bA, bc, xs, qA, qc, fifo, eA, ec, queue, lost, st⟩ := h
  dsimp only at *
  go_enter Try.func64, Try.ntmps64
  go_wp2_with fail
  go_loopw [3, 4] (fun d i wr => ∃ k m : Nat, k ≤ xs.length ∧ m ≤ k ∧ i = .int .i64 k ∧ d = .int .i64 m ∧ wr.heap[w.heap.size]? = some (.cells #[.int .i64 cfg.boxes, .int .i64 cfg.fifo, .int .i64 cfg.policy, .int .i64 cfg.events, .slice fA filters.length fc, .slice bA xs.length bc, .slice qA fifo.length qc, .slice eA queue.length ec, .int .i64 lost, .int .i64 st] 37 (0, 0)) ∧ Below w.heap.size w wr ∧ Hid (Boxes1 st ((xs.take k).map LBox.d)) ∧ Hid (m = ((xs.take k).map LBox.d).countP DBox.isBusy)) (fun _ i _ => xs.length - (intOf i).toNat)
  case atStart => exact ⟨0, 0, by omega, by omega, rfl, rfl, heap_new _ _ rfl, (by repeat first | with_reducible exact Below.refl _ _ | with_reducible assumption | with_reducible refine bl_alloc ?_ _ | with_reducible refine bl_drewN ?_ _ | with_reducible refine Below.drew ?_ | (refine bl_set ?_ (by simp <;> omega) _)), by simp [Hid, Boxes1], by simp [Hid]⟩
  case round =>
    obtain ⟨k, m, hk, hm, rfl, rfl, hh, hb, hp, hc⟩ := hrel
    obtain ⟨c0, c1, c2, c3, c4, c5, c6, c7, c8, c9, cf⟩ := ten hh
    have zh := lt_of_heap hh
    have HH : Hid _ := hh
    clear hh
    by_cases hlt : k < xs.length
    · obtain ⟨g, o, rfl, hg, ⟨d0, d1, d2, d3, d4, d5, d6, d7⟩⟩ := boxAt (hf1 wr hb).1 k hlt
      have R : Hid _ := hf1
      have HD : Hid _ := ld _ (List.getElem_mem hlt)
      clear hf1
      obtain ⟨x, hx⟩ : ∃ x, x = xs[k] := ⟨_, rfl⟩
      rw [← hx] at d0 d1 d2 d3 d4 d5 d6 d7 HD
      have HX : Hid _ := hx
      clear hx
      by_cases hs : x.state = 0
      · have HS : Hid _ := hs
        rw [hs] at d0
        clear hs
        by_cases ht : x.tag = 0 ∧ x.stamp = 0
        · have HT : Hid _ := ht
          rw [ht.1] at d1
          rw [ht.2] at d2
          clear ht
          go_wp2_with fail
          refine (l3zeroFrame_any _ x.f).mono ?_; rintro e w1 ⟨rfl, hbb⟩
          have hb1 := bl_then (bl_alloc hb _) hbb
          have hh1 := heap_below hbb (heap_old _ HH.out)
          by_cases hz : x.f.d = DFrame.zero
          · have HZ : Hid _ := hz
            rw [decide_eq_true hz]
            clear hz hb hbb d0 d1 d2 d3 d4 d5 d6 d7 c0 c1 c2 c3 c4 c5 c6 c7 c8 c9 cf
            go_wp2_with fail
            go_roundw
            case rel =>
              have hok : xs[k].d.Ok st := by rw [← HX.out]; unfold DBox.Ok; rw [if_pos (by exact HS.out)]; exact ⟨HT.out.1, HT.out.2, HZ.out⟩
              refine ⟨k + 1, m, by omega, by omega, by go_num, rfl, hh1, hb1, boxes1_succ hlt hp hok (fun y _ _ h2 => absurd ?_ h2), ?_⟩
              · rw [← HX.out]; exact HS.out
              · have := count_succ hlt hc.out
                rw [← HX.out] at this
                rw [if_neg (by simp [DBox.isBusy, LBox.d, HS.out])] at this
                exact this
            case measure => simp [intOf]; omega
          · have HZ : Hid _ := hz
            rw [decide_eq_false hz]
            clear hz hb hbb d0 d1 d2 d3 d4 d5 d6 d7 c0 c1 c2 c3 c4 c5 c6 c7 c8 c9 cf
            go_wp2_with fail
            go_ret
            refine ⟨ret_ne (boxes1_not hlt (fun h => HZ.out ?_)), hb1⟩
            rw [← HX.out] at h
            unfold DBox.Ok at h
            rw [if_pos (by exact HS.out)] at h
            exact h.2.2
        · have HT : Hid _ := ht
          clear ht
          go_wp2_with fail
          all_goals first
            | (exfalso; exact HT.out ⟨by assumption, by assumption⟩)
            | (go_ret
               refine ⟨ret_ne (boxes1_not hlt (fun h => HT.out ?_)), (by repeat first | with_reducible exact Below.refl _ _ | with_reducible assumption | with_reducible refine bl_alloc ?_ _ | with_reducible refine bl_drewN ?_ _ | with_reducible refine Below.drew ?_ | (refine bl_set ?_ (by simp <;> omega) _))⟩
               rw [← HX.out] at h
               unfold DBox.Ok at h
               rw [if_pos (by exact HS.out)] at h
               exact ⟨h.1, h.2.1⟩)
      · have HS : Hid _ := hs
        by_cases hn : 0 ≤ x.state ∧ x.state ≤ 3 ∧ 0 ≤ x.tag ∧ x.tag ≤ 9999 ∧ 0 ≤ x.stamp ∧ x.stamp < st
        · have HN : Hid _ := hn
          have q1 : decide (x.state < 0) = false := decide_eq_false (by omega)
          have q2 : decide (3 < x.state) = false := decide_eq_false (by omega)
          have q3 : decide (x.tag < 0) = false := decide_eq_false (by omega)
          have q4 : decide (9999 < x.tag) = false := decide_eq_false (by omega)
          have q5 : decide (x.stamp < 0) = false := decide_eq_false (by omega)
          have q6 : decide (st ≤ x.stamp) = false := decide_eq_false (by omega)
          have q7 : (x.state == 0) = false := by simpa using hs
          clear hn
          go_wp2_with fail
          refine (ValidFrame_any _ x.f HD.out).mono ?_; rintro e w1 ⟨rfl, hbb⟩
          have hb1 := bl_then (bl_alloc hb _) hbb
          have hh1 := heap_below hbb (heap_old _ HH.out)
          have hx1 := heap_below hbb (heap_new (W := wr) _ _ rfl)
          clear c0 c1 c2 c3 c4 c5 c6 c7 c8 c9 cf d0 d1 d2 d3 d4 d5 d6 d7 hbb HH
          by_cases hv : x.f.d.Ok
          · have HV : Hid _ := hv
            rw [decide_eq_true hv]
            obtain ⟨c0, c1, c2, c3, c4, c5, c6, c7, c8, c9, cf⟩ := ten hh1
            obtain ⟨d0, d1, d2, d3, d4, d5, d6, d7, df⟩ := eight hx1
            have zx := lt_of_heap hx1
            have HH : Hid _ := hh1
            have HXX : Hid _ := hx1
            clear hv hh1 hx1
            obtain ⟨m', hm'⟩ : ∃ m', m' = if x.d.isBusy then m + 1 else m := ⟨_, rfl⟩
            have HM : Hid _ := hm'
            have hmm : m' ≤ m + 1 := by rw [hm']; split <;> omega
            have hok : Hid (xs[k].d.Ok st) := by rw [← HX.out]; show DBox.Ok st x.d; unfold DBox.Ok; rw [if_neg (by exact HS.out)]; obtain ⟨a1, a2, a3, a4, a5, a6⟩ := HN.out; exact ⟨a1, a2, a3, a4, a5, a6, HV.out⟩
            clear hm'
            by_cases h1 : x.state = 1
            · have e1 : (m : Int) = m' := by rw [HM.out, if_neg (by simp [DBox.isBusy, LBox.d, h1])]
              have q8 : (x.state != 1) = false := by simp [h1]
              clear h1
              go_wp2_with fail
              clear c0 c1 c2 c3 c4 c5 c6 c7 c8 c9 cf d0 d1 d2 d3 d4 d5 d6 d7 df
              obtain ⟨w0, ew⟩ : ∃ y, y = wr := ⟨_, rfl⟩
              subst ew
              go_loopw [6] (fun i wr => ∃ j : Nat, j ≤ k ∧ i = .int .i64 j ∧ wr.heap[w.heap.size]? = some (.cells #[.int .i64 cfg.boxes, .int .i64 cfg.fifo, .int .i64 cfg.policy, .int .i64 cfg.events, .slice fA filters.length fc, .slice (some ⟨g, o, none⟩) xs.length bc, .slice qA fifo.length qc, .slice eA queue.length ec, .int .i64 lost, .int .i64 st] 37 (0, 0)) ∧ wr.heap[w0.heap.size]? = some (.cells #[.int .i64 x.state, .int .i64 x.tag, .int .i64 x.stamp, .bool x.f.ext, .int .u32 x.f.id, .bool x.f.rtr, .int .i64 x.f.dlc, .slice x.f.A x.f.data.length x.f.cap] 98 (0, 0)) ∧ Below w.heap.size w wr ∧ Hid (∀ y ∈ (xs.take j).map LBox.d, Beside y x.d)) (fun i _ => k - (intOf i).toNat)
              case atStart => exact ⟨0, by omega, rfl, HH.out, HXX.out, hb1, by simp [Hid]⟩
              case round =>
                obtain ⟨j, hj, rfl, hh2, hx2, hb2, hbe⟩ := hrel
                obtain ⟨c0, c1, c2, c3, c4, c5, c6, c7, c8, c9, cf⟩ := ten hh2
                obtain ⟨d0, d1, d2, d3, d4, d5, d6, d7, df⟩ := eight hx2
                have H2 : Hid _ := hh2
                have X2 : Hid _ := hx2
                clear hh2 hx2
                by_cases hjk : j < k
                · have hjl : j < xs.length := by omega
                  obtain ⟨g2, o2, eg, hg2, ⟨b0, b1, b2, _, _, _, _, _⟩⟩ := boxAt (R.out wr hb2).1 j hjl
                  injection eg with eg
                  injection eg with eg1 eg2 _
                  subst eg1
                  subst eg2
                  obtain ⟨y, hy⟩ : ∃ y, y = xs[j] := ⟨_, rfl⟩
                  rw [← hy] at b0 b1 b2
                  have HY : Hid _ := hy
                  clear hy
                  by_cases t1 : y.state = 0
                  · have s1 : (y.state != 0) = false := by simp [t1]
                    have T1 : Hid _ := t1
                    clear t1
                    go_wp2_with fail
                    go_quiet (fail)
                    go_wp2_with fail
                    go_roundw
                    case rel => exact ⟨j + 1, by omega, by go_num, heap_drewN H2.out _, heap_drewN X2.out _, bl_drewN hb2 _, beside_succ hjl hbe (by rw [← HY.out]; exact fun h => absurd T1.out h)⟩
                    case measure => simp [intOf]; omega
                  · have s1 : (y.state != 0) = true := by simpa using t1
                    have T1 : Hid _ := t1
                    clear t1
                    by_cases t2 : y.tag = x.tag
                    · have s2 : (y.tag == x.tag) = true := by simpa using t2
                      have T2 : Hid _ := t2
                      clear t2
                      go_wp2_with fail
                      go_quiet (fail)
                      go_wp2_with fail
                      go_ret
                      exact ⟨ret_ne (boxes1_not2 hjk hlt (by rw [← HY.out, ← HX.out]; exact fun h => (h T1.out HS.out).1 T2.out)), bl_drewN hb2 _⟩
                    · have s2 : (y.tag == x.tag) = false := by simpa using t2
                      have T2 : Hid _ := t2
                      clear t2
                      by_cases t3 : y.stamp = x.stamp
                      · have s3 : (y.stamp == x.stamp) = true := by simpa using t3
                        have T3 : Hid _ := t3
                        clear t3
                        go_wp2_with fail
                        go_quiet (fail)
                        go_wp2_with fail
                        go_ret
                        exact ⟨ret_ne (boxes1_not2 hjk hlt (by rw [← HY.out, ← HX.out]; exact fun h => (h T1.out HS.out).2 T3.out)), bl_drewN hb2 _⟩
                      · have s3 : (y.stamp == x.stamp) = false := by simpa using t3
                        have T3 : Hid _ := t3
                        clear t3
                        go_wp2_with fail
                        go_quiet (fail)
                        go_wp2_with fail
                        go_roundw
                        case rel => exact ⟨j + 1, by omega, by go_num, heap_drewN H2.out _, heap_drewN X2.out _, bl_drewN hb2 _, beside_succ hjl hbe (by rw [← HY.out]; exact fun _ _ => ⟨T2.out, T3.out⟩)⟩
                        case measure => simp [intOf]; omega
                · have HJ : Hid _ := hjk
                  go_wp2_with fail
                  go_roundw
                  case rel =>
                    have ej : j = k := by have := HJ.out; omega
                    subst ej
                    refine ⟨j + 1, m', by omega, by omega, by go_num, rfl, H2.out, hb2, boxes1_succ hlt hp hok.out (by rw [← HX.out]; exact hbe.out), ?_⟩
                    have := count_succ hlt hc.out
                    rw [← HX.out, ← HM.out] at this
                    exact this
                  case measure => simp [intOf]; omega
            · have e1 : (m : Int) + 1 = m' := by rw [HM.out, if_pos (by simp [DBox.isBusy, LBox.d, h1]; exact HS.out)]; simp
              have q8 : (x.state != 1) = true := by simp [h1]
              clear h1
              go_wp2_with fail
              clear c0 c1 c2 c3 c4 c5 c6 c7 c8 c9 cf d0 d1 d2 d3 d4 d5 d6 d7 df
              obtain ⟨w0, ew⟩ : ∃ y, y = wr := ⟨_, rfl⟩
              subst ew
              go_loopw [6] (fun i wr => ∃ j : Nat, j ≤ k ∧ i = .int .i64 j ∧ wr.heap[w.heap.size]? = some (.cells #[.int .i64 cfg.boxes, .int .i64 cfg.fifo, .int .i64 cfg.policy, .int .i64 cfg.events, .slice fA filters.length fc, .slice (some ⟨g, o, none⟩) xs.length bc, .slice qA fifo.length qc, .slice eA queue.length ec, .int .i64 lost, .int .i64 st] 37 (0, 0)) ∧ wr.heap[w0.heap.size]? = some (.cells #[.int .i64 x.state, .int .i64 x.tag, .int .i64 x.stamp, .bool x.f.ext, .int .u32 x.f.id, .bool x.f.rtr, .int .i64 x.f.dlc, .slice x.f.A x.f.data.length x.f.cap] 98 (0, 0)) ∧ Below w.heap.size w wr ∧ Hid (∀ y ∈ (xs.take j).map LBox.d, Beside y x.d)) (fun i _ => k - (intOf i).toNat)
              case atStart => exact ⟨0, by omega, rfl, HH.out, HXX.out, hb1, by simp [Hid]⟩
              case round =>
                obtain ⟨j, hj, rfl, hh2, hx2, hb2, hbe⟩ := hrel
                obtain ⟨c0, c1, c2, c3, c4, c5, c6, c7, c8, c9, cf⟩ := ten hh2
                obtain ⟨d0, d1, d2, d3, d4, d5, d6, d7, df⟩ := eight hx2
                have H2 : Hid _ := hh2
                have X2 : Hid _ := hx2
                clear hh2 hx2
                by_cases hjk : j < k
                · have hjl : j < xs.length := by omega
                  obtain ⟨g2, o2, eg, hg2, ⟨b0, b1, b2, _, _, _, _, _⟩⟩ := boxAt (R.out wr hb2).1 j hjl
                  injection eg with eg
                  injection eg with eg1 eg2 _
                  subst eg1
                  subst eg2
                  obtain ⟨y, hy⟩ : ∃ y, y = xs[j] := ⟨_, rfl⟩
                  rw [← hy] at b0 b1 b2
                  have HY : Hid _ := hy
                  clear hy
                  by_cases t1 : y.state = 0
                  · have s1 : (y.state != 0) = false := by simp [t1]
                    have T1 : Hid _ := t1
                    clear t1
                    go_wp2_with fail
                    go_quiet (fail)
                    go_wp2_with fail
                    go_roundw
                    case rel => exact ⟨j + 1, by omega, by go_num, heap_drewN H2.out _, heap_drewN X2.out _, bl_drewN hb2 _, beside_succ hjl hbe (by rw [← HY.out]; exact fun h => absurd T1.out h)⟩
                    case measure => simp [intOf]; omega
                  · have s1 : (y.state != 0) = true := by simpa using t1
                    have T1 : Hid _ := t1
                    clear t1
                    by_cases t2 : y.tag = x.tag
                    · have s2 : (y.tag == x.tag) = true := by simpa using t2
                      have T2 : Hid _ := t2
                      clear t2
                      go_wp2_with fail
                      go_quiet (fail)
                      go_wp2_with fail
                      go_ret
                      exact ⟨ret_ne (boxes1_not2 hjk hlt (by rw [← HY.out, ← HX.out]; exact fun h => (h T1.out HS.out).1 T2.out)), bl_drewN hb2 _⟩
                    · have s2 : (y.tag == x.tag) = false := by simpa using t2
                      have T2 : Hid _ := t2
                      clear t2
                      by_cases t3 : y.stamp = x.stamp
                      · have s3 : (y.stamp == x.stamp) = true := by simpa using t3
                        have T3 : Hid _ := t3
                        clear t3
                        go_wp2_with fail
                        go_quiet (fail)
                        go_wp2_with fail
                        go_ret
                        exact ⟨ret_ne (boxes1_not2 hjk hlt (by rw [← HY.out, ← HX.out]; exact fun h => (h T1.out HS.out).2 T3.out)), bl_drewN hb2 _⟩
                      · have s3 : (y.stamp == x.stamp) = false := by simpa using t3
                        have T3 : Hid _ := t3
                        clear t3
                        go_wp2_with fail
                        go_quiet (fail)
                        go_wp2_with fail
                        go_roundw
                        case rel => exact ⟨j + 1, by omega, by go_num, heap_drewN H2.out _, heap_drewN X2.out _, bl_drewN hb2 _, beside_succ hjl hbe (by rw [← HY.out]; exact fun _ _ => ⟨T2.out, T3.out⟩)⟩
                        case measure => simp [intOf]; omega
                · have HJ : Hid _ := hjk
                  go_wp2_with fail
                  go_roundw
                  case rel =>
                    have ej : j = k := by have := HJ.out; omega
                    subst ej
                    refine ⟨j + 1, m', by omega, by omega, by go_num, rfl, H2.out, hb2, boxes1_succ hlt hp hok.out (by rw [← HX.out]; exact hbe.out), ?_⟩
                    have := count_succ hlt hc.out
                    rw [← HX.out, ← HM.out] at this
                    exact this
                  case measure => simp [intOf]; omega
          · have HV : Hid _ := hv
            rw [decide_eq_false hv]
            clear hv hh1 hx1
            go_wp2_with fail
            go_ret
            refine ⟨ret_ne (boxes1_not hlt (fun h => HV.out ?_)), hb1⟩
            rw [← HX.out] at h
            unfold DBox.Ok at h
            rw [if_neg (by exact HS.out)] at h
            exact h.2.2.2.2.2.2
        · have HN : Hid _ := hn
          clear hn
          go_wp2_with fail
          all_goals first
            | (exfalso; apply HN.out; omega)
            | (go_ret
               refine ⟨ret_ne (boxes1_not hlt (fun h => HN.out ?_)), (by repeat first | with_reducible exact Below.refl _ _ | with_reducible assumption | with_reducible refine bl_alloc ?_ _ | with_reducible refine bl_drewN ?_ _ | with_reducible refine Below.drew ?_ | (refine bl_set ?_ (by simp <;> omega) _))⟩
               rw [← HX.out] at h
               unfold DBox.Ok at h
               rw [if_neg (by exact HS.out)] at h
               obtain ⟨a1, a2, a3, a4, a5, a6, _⟩ := h
               exact ⟨a1, a2, a3, a4, a5, a6⟩)
    · clear hf1
      have HE : Hid _ := hlt
      go_wp2_with fail
      go_ret
      have e1 : k = xs.length := by have := HE.out; omega
      subst e1
      have h1 := hp.out
      have h2 := hc.out
      rw [List.take_length] at h1 h2
      refine ⟨ret_iff ?_, hb⟩
      unfold BoxesOk
      rw [← h2]
      simp [h1]
      omega
end Go.Proofs.Ytcfhjmflnochcaa
