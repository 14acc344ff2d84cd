/-
  The reference's telling of an event, and its look for the box that is being sent.
-/
import Derived.Test.YtcfhjmflnochcaaCopyH
import Derived.Test.YtcfhjmflnochcaaOps
import Derived.Deep.RegionLaw
set_option linter.unusedVariables false
set_option linter.unusedSimpArgs false
namespace Go.Proofs.Ytcfhjmflnochcaa
open Go.RowKit
variable {p q : Prop}

set_option maxHeartbeats 4000000 in
set_option maxRecDepth 100000 in
theorem l3busy_any (w : World) (h : LHost) (lb : h.boxes.length ≤ 1099511627776) (e1 : TypeId) (H : BoxesR p w e1 h.bA h.boxes) :
    Calls Try.prog 65 #[.agg #[.int .i64 h.cfg.boxes, .int .i64 h.cfg.fifo, .int .i64 h.cfg.policy, .int .i64 h.cfg.events, .slice h.fA h.filters.length h.fc, .slice h.bA h.boxes.length h.bc, .slice h.qA h.fifo.length h.qc, .slice h.eA h.queue.length h.ec, .int .i64 h.lost, .int .i64 h.stamp]] w
      fun e w' => e = .returned (.int .i64 (firstIx DBox.sending (h.boxes.map LBox.d))) ∧ Below w.heap.size w w' := by
  have R : Hid _ := fun W (k : Below w.heap.size w W) => H.below k
  clear H
  go_enter Try.func65, Try.ntmps65
  go_wp2_with fail
  go_loopw [3] (fun i wr => ∃ k : Nat, k ≤ h.boxes.length ∧ i = .int .i64 k ∧ wr.heap[w.heap.size]? = some (.cells (hostCells h) 37 (0, 0)) ∧ Below w.heap.size w wr ∧ Hid (∀ j (_ : j < k) (hj : j < h.boxes.length), h.boxes[j].d.sending = false)) (fun i _ => h.boxes.length - (intOf i).toNat)
  case atStart => exact ⟨0, by omega, rfl, heap_new _ _ rfl, (by repeat first | with_reducible exact Below.refl _ _ | with_reducible assumption | with_reducible refine bl_alloc ?_ _ | with_reducible refine bl_drewN ?_ _ | with_reducible refine Below.drew ?_ | (refine bl_set ?_ (by simp <;> omega) _)), by simp [Hid]⟩
  case round =>
    obtain ⟨k, hk, rfl, hh0, hb, hp⟩ := hrel
    obtain ⟨c0, c1, c2, c3, c4, c5, c6, c7, c8, c9, cf⟩ := ten hh0
    have z2 := lt_of_heap hh0
    have H0 : Hid _ := hh0
    clear hh0
    by_cases hlt : k < h.boxes.length
    · obtain ⟨g, o, hA, hg, ⟨e0, e1, e2, e3, e4, e5, e6, e7⟩⟩ := boxAt (R.out wr hb).1 k hlt
      rw [hA] at c5
      have HA : Hid _ := hA
      obtain ⟨x, hx⟩ : ∃ x, x = h.boxes[k] := ⟨_, rfl⟩
      rw [← hx] at e0
      have HX : Hid _ := hx
      clear hx hA e1 e2 e3 e4 e5 e6 e7
      by_cases hs : x.d.sending = true
      · have HS : Hid _ := hs
        have hs2 : x.state = 2 ∨ x.state = 3 := by simpa [DBox.sending, LBox.d] using hs
        clear hs
        rcases hs2 with hs2 | hs2
        all_goals (
          rw [hs2] at e0
          clear hs2
          go_wp2_with fail
          go_ret
          refine ⟨congrArg (fun z => Ending.returned (.int .i64 z)) (firstIx_some (by simpa using hlt) ?_ ?_).symm, hb⟩
          · simp only [List.getElem_map]; rw [← HX.out]; exact HS.out
          · intro j hj
            simp only [List.getElem_map]
            exact hp.out j hj (by omega))
      · have HS : Hid (x.d.sending = false) := Bool.eq_false_iff.2 hs
        have n1 : (x.state == 2) = false := by have := HS.out; simp [DBox.sending, LBox.d] at this; simp; omega
        have n2 : (x.state == 3) = false := by have := HS.out; simp [DBox.sending, LBox.d] at this; simp; omega
        clear hs
        go_wp2_with fail
        go_roundw
        case rel => exact ⟨k + 1, by omega, by go_num, H0.out, hb, fun j hj hl => by
          by_cases he : j = k
          · subst he; rw [← HX.out]; exact HS.out
          · exact hp.out j (by omega) hl⟩
        case measure => simp [intOf]; omega
    · have HE : Hid _ := hlt
      go_wp2_with fail
      go_ret
      exact ⟨congrArg (fun z => Ending.returned (.int .i64 z)) (firstIx_none (fun j hj => by simp only [List.getElem_map]; exact hp.out j (by have := HE.out; simp at hj; omega) (by simpa using hj))).symm, hb⟩

theorem OwnHost.withMeta {B : Nat → Prop} {w : World} {x : LHost} (h : OwnHost B w x) (c : DConfig) (l s : Int) : OwnHost B w { x with cfg := c, lost := l, stamp := s } := ⟨h.1, h.2, h.3, h.4⟩
/-- A host as a value. -/
def hv (x : LHost) : Value := .agg #[.int .i64 x.cfg.boxes, .int .i64 x.cfg.fifo, .int .i64 x.cfg.policy, .int .i64 x.cfg.events, .slice x.fA x.filters.length x.fc, .slice x.bA x.boxes.length x.bc, .slice x.qA x.fifo.length x.qc, .slice x.eA x.queue.length x.ec, .int .i64 x.lost, .int .i64 x.stamp]

theorem map_d_len {h : LHost} : (h.d.queue.length : Int) = h.queue.length := by simp [LHost.d]

set_option maxHeartbeats 4000000 in
set_option maxRecDepth 100000 in
theorem l3post_any (w : World) (h : LHost) (kind a b : Int) (f : LFrame) (B : Nat → Prop) (hB : ∀ i, w.heap.size ≤ i → B i) (H : OwnHost B w h) (hq : h.queue.length ≤ 4194304) (h0 : 0 ≤ h.lost) (hl : f.data.length ≤ 1099511627776) (hf : FrameR p w f) :
    Calls Try.prog 66 #[.agg #[.int .i64 h.cfg.boxes, .int .i64 h.cfg.fifo, .int .i64 h.cfg.policy, .int .i64 h.cfg.events, .slice h.fA h.filters.length h.fc, .slice h.bA h.boxes.length h.bc, .slice h.qA h.fifo.length h.qc, .slice h.eA h.queue.length h.ec, .int .i64 h.lost, .int .i64 h.stamp], .int .i64 kind, .int .i64 a, .int .i64 b, .agg #[.bool f.ext, .int .u32 f.id, .bool f.rtr, .int .i64 f.dlc, .slice f.A f.data.length f.cap]] w
      (Ret hv fun x w' => x.d = h.d.post kind a b f.d ∧ OwnHost B w' x ∧ Chg B w w') := by
  have R : Hid _ := fun W (k : Below w.heap.size w W) => hf.below k
  have HO : Hid _ := H
  clear hf H
  go_enter Try.func66, Try.ntmps66
  by_cases hc : h.cfg.events ≤ (h.queue.length : Int)
  · by_cases hl : h.lost < 100000
    · have e1 : h.d.post kind a b f.d = { h.d with lost := h.lost + 1 } := by unfold DHost.post; rw [if_pos (by rw [map_d_len]; exact hc), if_pos (by exact hl)]; rfl
      have E1 : Hid _ := e1
      clear e1
      go_wp2_with fail
      refine bodyPost_ret (v := hv { h with lost := h.lost + 1 }) (by simp [results, Try.results66, go_sem, hv, *]) rfl (Ret.mk { h with lost := h.lost + 1 } rfl ⟨?_, ?_, ?_⟩)
      · rw [E1.out]; rfl
      · exact (HO.out.below (by exact (by repeat first | with_reducible exact Below.refl _ _ | with_reducible assumption | with_reducible refine bl_alloc ?_ _ | with_reducible refine bl_drewN ?_ _ | with_reducible refine Below.drew ?_ | (refine bl_set ?_ (by simp <;> omega) _)))).withMeta h.cfg (h.lost + 1) h.stamp
      · exact (by repeat first | with_reducible exact Chg.refl _ _ | with_reducible assumption | with_reducible refine Chg.alloc ?_ _ | with_reducible refine Chg.drewN ?_ _ | with_reducible refine Chg.drew ?_ | (refine Chg.set ?_ (by simp <;> omega) _))
    · have e1 : h.d.post kind a b f.d = h.d := by unfold DHost.post; rw [if_pos (by rw [map_d_len]; exact hc), if_neg (by exact hl)]
      have E1 : Hid _ := e1
      clear e1
      go_wp2_with fail
      refine bodyPost_ret (v := hv h) (by simp [results, Try.results66, go_sem, hv, *]) rfl (Ret.mk h rfl ⟨?_, ?_, ?_⟩)
      · rw [E1.out]
      · exact HO.out.below (by exact (by repeat first | with_reducible exact Below.refl _ _ | with_reducible assumption | with_reducible refine bl_alloc ?_ _ | with_reducible refine bl_drewN ?_ _ | with_reducible refine Below.drew ?_ | (refine bl_set ?_ (by simp <;> omega) _)))
      · exact (by repeat first | with_reducible exact Chg.refl _ _ | with_reducible assumption | with_reducible refine Chg.alloc ?_ _ | with_reducible refine Chg.drewN ?_ _ | with_reducible refine Chg.drew ?_ | (refine Chg.set ?_ (by simp <;> omega) _))
  · have e1 : h.d.post kind a b f.d = { h.d with queue := h.d.queue ++ [⟨kind, a, b, f.d⟩] } := by unfold DHost.post; rw [if_neg (by rw [map_d_len]; exact hc)]
    have E1 : Hid _ := e1
    clear e1
    go_wp2_with fail
    obtain ⟨W0, e0⟩ : ∃ W0, W0 = ((w.alloc (.cells #[.int .i64 h.cfg.boxes, .int .i64 h.cfg.fifo, .int .i64 h.cfg.policy, .int .i64 h.cfg.events, .slice h.fA h.filters.length h.fc, .slice h.bA h.boxes.length h.bc, .slice h.qA h.fifo.length h.qc, .slice h.eA h.queue.length h.ec, .int .i64 h.lost, .int .i64 h.stamp] 37)).alloc (.cells #[.bool f.ext, .int .u32 f.id, .bool f.rtr, .int .i64 f.dlc, .slice f.A f.data.length f.cap] 49)).alloc (.cells hzero 37) := ⟨_, rfl⟩
    have b0 : Below w.heap.size w W0 := by rw [e0]; exact (by repeat first | with_reducible exact Below.refl _ _ | with_reducible assumption | with_reducible refine bl_alloc ?_ _ | with_reducible refine bl_drewN ?_ _ | with_reducible refine Below.drew ?_ | (refine bl_set ?_ (by simp <;> omega) _))
    have s0 : W0.heap.size = w.heap.size + 3 := by rw [e0]; simp
    have k0 : W0.heap[w.heap.size]? = some (.cells (hostCells h) 37 (0, 0)) := by rw [e0]; exact heap_old _ (heap_old _ (heap_new _ _ rfl))
    have k1 : W0.heap[w.heap.size + 1]? = some (.cells #[.bool f.ext, .int .u32 f.id, .bool f.rtr, .int .i64 f.dlc, .slice f.A f.data.length f.cap] 49 (0, 0)) := by rw [e0]; exact heap_old _ (heap_new _ _ (by simp))
    have k2 : W0.heap[w.heap.size + 2]? = some (.cells hzero 37 (0, 0)) := by rw [e0]; exact heap_new _ _ (by simp)
    have O0 : Hid (OwnHost (fun i => (B i ∧ i < w.heap.size) ∨ w.heap.size + 3 ≤ i) W0 h) := (HO.out.mono (fun i hi hl => .inl ⟨hi, hl⟩)).below b0
    have F0 : Hid _ := R.out _ b0
    change Code.wp _ _ _ _ (((w.alloc (.cells #[.int .i64 h.cfg.boxes, .int .i64 h.cfg.fifo, .int .i64 h.cfg.policy, .int .i64 h.cfg.events, .slice h.fA h.filters.length h.fc, .slice h.bA h.boxes.length h.bc, .slice h.qA h.fifo.length h.qc, .slice h.eA h.queue.length h.ec, .int .i64 h.lost, .int .i64 h.stamp] 37)).alloc (.cells #[.bool f.ext, .int .u32 f.id, .bool f.rtr, .int .i64 f.dlc, .slice f.A f.data.length f.cap] 49)).alloc (.cells hzero 37))
    rw [← e0]
    clear e0
    obtain ⟨c0, c1, c2, c3, c4, c5, c6, c7, c8, c9, cf⟩ := ten k0
    obtain ⟨d0, d1, d2, d3, d4, df⟩ := five k1
    obtain ⟨x0, x1, x2, x3, x4, x5, x6, x7, x8, x9, xf⟩ := ten k2
    have K0 : Hid _ := k0
    have K2 : Hid _ := k2
    have hBH : Hid _ := hB
    clear hB k0 k1 k2
    go_region_law
      (first
        | (refine step_app _ rfl (.tmp 27) (.tmp 34) 35 rfl 0 95 _ 8 72 Try.underlying35 infoEvent rfl (by omega) (by omega) _ h.queue.length _ rfl (by exact own_chg (S := fun _ => False) O1.out.e.own (by repeat first | with_reducible exact Chg.refl _ _ | with_reducible assumption | with_reducible refine Chg.alloc ?_ _ | with_reducible refine Chg.drewN ?_ _ | with_reducible refine Chg.drew ?_ | (refine Chg.set ?_ (by simp <;> omega) _)) (fun _ _ h => h)) 95 _ 1 1 y.cs rfl (by rw [HY.out]; exact cells_new _ [_, _, _, _, _, _, _, _] _ _ (by simp)) rfl (one_event _) (by omega) (Nat.zero_le _) ?_
           intro A2 c2 w2 hown2 hgrow hloc
           have hch2 : Chg (fun i => B i ∧ i ≠ w.heap.size + 1) W0 w2 := Chg.trans (by exact (by repeat first | with_reducible exact Chg.refl _ _ | with_reducible assumption | with_reducible refine Chg.alloc ?_ _ | with_reducible refine Chg.drewN ?_ _ | with_reducible refine Chg.drew ?_ | (refine Chg.set ?_ (by simp <;> omega) _))) (Chg.grown hgrow (fun g hg _ => ⟨HO.out.e.at_ g hg, by have := own_lt HO.out.e.own hg; omega⟩)) (fun _ _ h => h)
           have hg3 := heap_grown hgrow (heap_old _ G1.out) (fun e => by have := own_lt HO.out.e.own e.symm; omega)
           have hg4 := heap_grown hgrow (heap_old _ G2.out) (fun e => by have := own_lt HO.out.e.own e.symm; omega)
           have zz3 := lt_of_heap hg3
           have zz4 := lt_of_heap hg4
           obtain ⟨u0, u1, u2, u3, u4, u5, u6, u7, u8, u9, uf⟩ := ten hg3
           obtain ⟨v0, v1, v2, v3, v4, v5, v6, v7, v8, v9, vf⟩ := ten hg4
           have HG : Hid _ := hgrow
           have HL : Hid _ := hloc
           have HW : Hid _ := hown2
           clear hgrow hloc hown2 hg3 hg4)
        | (go_simp
           go_at_call 69
           refine (l1copyFrame_any _ f hl (FrameR.drew F0.out)).mono ?_
           rintro e w1 ⟨A', c', rfl, R', G', hbb⟩
           have g1 : Below W0.heap.size W0 w1 := bl_then (Below.drew (Below.refl _ _)) hbb
           have hch1 : Chg (fun i => B i ∧ i ≠ w.heap.size + 1) W0 w1 := Chg.of_below g1 _
           have hg1 := heap_below g1 K0.out
           have hg2 := heap_below g1 K2.out
           have zz1 := lt_of_heap hg1
           have zz2 := lt_of_heap hg2
           have O1 : Hid _ := O0.out.below g1
           obtain ⟨_, _, _, _, _, _, _, t7, _, _, tf⟩ := ten hg1
           have G1 : Hid _ := hg1
           have G2 : Hid _ := hg2
           have R1 : Hid _ := R'
           have I1 : Hid (InA (w.heap.size + 3) w1.heap.size A') := fun a ha => by have := G' a ha; simp at this; omega
           obtain ⟨y, hy⟩ : ∃ y : LEvent, y = ⟨kind, a, b, ⟨f.ext, f.id, f.rtr, f.dlc, A', c', f.data⟩⟩ := ⟨_, rfl⟩
           have HY : Hid _ := hy
           clear hy R' G' hbb hg1 hg2
           go_wp2_with fail))
    all_goals (
      clear d0 d1 d2 d3 d4 df
      have O2 : Hid (OwnHost (fun i => (B i ∧ i < w.heap.size) ∨ w.heap.size + 3 ≤ i) w2 { h with queue := h.queue ++ [y], eA := A2, ec := c2 }) :=
        ⟨Row.grown (hg := HG.out) (h := by exact O1.out.f.chg (S := fun _ => False) (by repeat first | with_reducible exact Chg.refl _ _ | with_reducible assumption | with_reducible refine Chg.alloc ?_ _ | with_reducible refine Chg.drewN ?_ _ | with_reducible refine Chg.drew ?_ | (refine Chg.set ?_ (by simp <;> omega) _)) (fun _ _ _ h => h)) (ho := by exact own_chg (S := fun _ => False) O1.out.e.own (by repeat first | with_reducible exact Chg.refl _ _ | with_reducible assumption | with_reducible refine Chg.alloc ?_ _ | with_reducible refine Chg.drewN ?_ _ | with_reducible refine Chg.drew ?_ | (refine Chg.set ?_ (by simp <;> omega) _)) (fun _ _ h => h)) (hne := by decide) (hu := by decide),
         Row.grown (hg := HG.out) (h := by exact O1.out.b.chg (S := fun _ => False) (by repeat first | with_reducible exact Chg.refl _ _ | with_reducible assumption | with_reducible refine Chg.alloc ?_ _ | with_reducible refine Chg.drewN ?_ _ | with_reducible refine Chg.drew ?_ | (refine Chg.set ?_ (by simp <;> omega) _)) (fun _ _ _ h => h)) (ho := by exact own_chg (S := fun _ => False) O1.out.e.own (by repeat first | with_reducible exact Chg.refl _ _ | with_reducible assumption | with_reducible refine Chg.alloc ?_ _ | with_reducible refine Chg.drewN ?_ _ | with_reducible refine Chg.drew ?_ | (refine Chg.set ?_ (by simp <;> omega) _)) (fun _ _ h => h)) (hne := by decide) (hu := by decide),
         Row.grown (hg := HG.out) (h := by exact O1.out.q.chg (S := fun _ => False) (by repeat first | with_reducible exact Chg.refl _ _ | with_reducible assumption | with_reducible refine Chg.alloc ?_ _ | with_reducible refine Chg.drewN ?_ _ | with_reducible refine Chg.drew ?_ | (refine Chg.set ?_ (by simp <;> omega) _)) (fun _ _ _ h => h)) (ho := by exact own_chg (S := fun _ => False) O1.out.e.own (by repeat first | with_reducible exact Chg.refl _ _ | with_reducible assumption | with_reducible refine Chg.alloc ?_ _ | with_reducible refine Chg.drewN ?_ _ | with_reducible refine Chg.drew ?_ | (refine Chg.set ?_ (by simp <;> omega) _)) (fun _ _ h => h)) (hne := by decide) (hu := by decide),
         Row.snoc (hg := HG.out) (hl := HL.out) (hn := by right; simp; omega) (h := by exact O1.out.e.chg (S := fun _ => False) (by repeat first | with_reducible exact Chg.refl _ _ | with_reducible assumption | with_reducible refine Chg.alloc ?_ _ | with_reducible refine Chg.drewN ?_ _ | with_reducible refine Chg.drew ?_ | (refine Chg.set ?_ (by simp <;> omega) _)) (fun _ _ _ h => h)) (y := y) (ho := HW.out) (hu := by decide) (hR := by rw [HY.out]; exact Cells.chg (S := fun _ => False) R1.out (by repeat first | with_reducible exact Chg.refl _ _ | with_reducible assumption | with_reducible refine Chg.alloc ?_ _ | with_reducible refine Chg.drewN ?_ _ | with_reducible refine Chg.drew ?_ | (refine Chg.set ?_ (by simp <;> omega) _)) (fun _ _ h => h)) (hI := by rw [HY.out]; exact fun a ha => by have := I1.out a ha; exact ⟨.inr (by omega), by simp; omega⟩)⟩
      go_wp2_with fail
      refine bodyPost_ret (v := .agg #[.int .i64 h.cfg.boxes, .int .i64 h.cfg.fifo, .int .i64 h.cfg.policy, .int .i64 h.cfg.events, .slice h.fA h.filters.length h.fc, .slice h.bA h.boxes.length h.bc, .slice h.qA h.fifo.length h.qc, .slice A2 (h.queue.length + 1) c2, .int .i64 h.lost, .int .i64 h.stamp]) (by simp [results, Try.results66, go_sem, *]) rfl (Ret.mk { h with queue := h.queue ++ [y], eA := A2, ec := c2 } (by simp [hv]) ⟨?_, ?_, ?_⟩)
      · rw [E1.out, HY.out]; simp [LHost.d, LEvent.d, LFrame.d]
      · exact (O2.out.chg (S := fun i => i = w.heap.size ∨ i = w.heap.size + 2) (by repeat first | with_reducible exact Chg.refl _ _ | with_reducible assumption | with_reducible refine Chg.alloc ?_ _ | with_reducible refine Chg.drewN ?_ _ | with_reducible refine Chg.drew ?_ | (refine Chg.set ?_ (by simp <;> omega) _)) (fun i hi _ => by omega)).mono (fun i hi _ => by rcases hi with hi | hi; exact hi.1; exact hBH.out i (by omega))
      · exact Chg.trans (Chg.of_below b0 B) (Chg.trans (S := fun i => B i) (hch2.mono (fun i _ hi => hi.1)) (b := w2) (T := fun i => i = w.heap.size ∨ i = w.heap.size + 2) (by repeat first | with_reducible exact Chg.refl _ _ | with_reducible assumption | with_reducible refine Chg.alloc ?_ _ | with_reducible refine Chg.drewN ?_ _ | with_reducible refine Chg.drew ?_ | (refine Chg.set ?_ (by simp <;> omega) _)) (fun i _ hi => hBH.out i (by omega))) (fun i _ hi => hi))
end Go.Proofs.Ytcfhjmflnochcaa
