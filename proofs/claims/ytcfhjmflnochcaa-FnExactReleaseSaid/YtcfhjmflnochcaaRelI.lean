/-
  The program's Release.
-/
import Derived.Test.YtcfhjmflnochcaaSideC
import Derived.Test.YtcfhjmflnochcaaSideS
import Derived.Test.YtcfhjmflnochcaaOkG
set_option linter.unusedVariables false
set_option linter.unusedSimpArgs false
namespace Go.Proofs.Ytcfhjmflnochcaa
open Go.RowKit
variable {p q : Prop}

set_option maxHeartbeats 4000000 in
set_option maxRecDepth 100000 in
theorem open_any (w : World) (h : LHost) (hz : HostSz h) (ok : h.d.Ok) (a1 a2 a3 a4 : TypeId) (H : HostR p a1 a2 a3 a4 w h) :
    Calls Try.prog 34 #[.agg #[.int .i64 h.cfg.boxes, .int .i64 h.cfg.fifo, .int .i64 h.cfg.policy, .int .i64 h.cfg.events, .slice h.fA h.filters.length h.fc, .slice h.bA h.boxes.length h.bc, .slice h.qA h.fifo.length h.qc, .slice h.eA h.queue.length h.ec, .int .i64 h.lost, .int .i64 h.stamp]] w
      (Ret (fun r : Nat × Nat × LHost => .pointer (some ⟨r.1, 0, none⟩)) (fun r w' => r.2.2.d = h.d ∧ SideR (fun i => w.heap.size ≤ i) w' r.1 r.2.1 r.2.2 ∧ Below w.heap.size w w')) := by
  have HH : Hid _ := H
  have hmm := @run_makeMap Try.prog
  clear H
  go_enter Try.func34, Try.ntmps34
  go_wp2_with fail
  clear hmm
  have k0 := heap_old (.cells (sideC (host1 LHost.zero) (w.heap.size + 1) 0 0) 116) (heap_old (.map #[] 0) (heap_new (W := w) (.cells (hostCells h) 37) _ rfl))
  refine (set_any w _ (by repeat first | with_reducible exact Below.refl _ _ | with_reducible assumption | with_reducible refine bl_alloc ?_ _ | with_reducible refine bl_drewN ?_ _ | with_reducible refine Below.drew ?_ | (refine bl_set ?_ (by simp <;> omega) _)) (w.heap.size + 2) (w.heap.size + 1) (by omega) (by omega) h hz ok _ _ _ _ HH.out (heap_new (W := (w.alloc _).alloc _) (.cells (sideC (host1 LHost.zero) (w.heap.size + 1) 0 0) 116) _ (by simp)) ((MapAt.made (W := w.alloc _) (by simp)).below (by exact (by repeat first | with_reducible exact Below.refl _ _ | with_reducible assumption | with_reducible refine bl_alloc ?_ _ | with_reducible refine bl_drewN ?_ _ | with_reducible refine Below.drew ?_ | (refine bl_set ?_ (by simp <;> omega) _))))).mono ?_
  rintro e w1 ⟨y, rfl, hd, hs, hb⟩
  have HD : Hid _ := hd
  have HS : Hid _ := hs
  clear hd hs k0
  go_wp2_with fail
  go_ret
  exact Ret.mk (w.heap.size + 2, w.heap.size + 1, y) rfl ⟨HD.out, HS.out, hb⟩

theorem LHost.zero_ap : HostAp LHost.zero := ⟨List.Pairwise.nil, List.Pairwise.nil, List.Pairwise.nil, fun _ h => absurd h List.not_mem_nil, fun _ h => absurd h List.not_mem_nil, fun _ h => absurd h List.not_mem_nil⟩
theorem release_bd {h : DHost} (ok : h.Ok) (sent : Bool) : (h.release sent).Bd := by
  have bd := ok.bd
  unfold DHost.release
  split
  · exact bd
  · rename_i i hi
    split
    · exact bd
    · rename_i b hb
      have hm : b ∈ h.boxes := List.mem_of_getElem? hb
      split
      · exact DHost.Bd.post (bd.boxes i DBox.zero (by simp [DBox.zero, DFrame.zero])) _ _ _ _ (bd.bd b hm)
      · split
        · exact DHost.Bd.post (bd.boxes i DBox.zero (by simp [DBox.zero, DFrame.zero])) _ _ _ _ (by simp [DFrame.zero])
        · exact bd.boxes i _ (bd.bd b hm)

set_option maxHeartbeats 4000000 in
set_option maxRecDepth 100000 in
theorem ReleaseI_any (w : World) (h : LHost) (sent : Bool) (hz : HostSz h) (a1 a2 a3 a4 : TypeId) (H : HostR p a1 a2 a3 a4 w h) :
    Calls Try.prog 9 #[.agg #[.int .i64 h.cfg.boxes, .int .i64 h.cfg.fifo, .int .i64 h.cfg.policy, .int .i64 h.cfg.events, .slice h.fA h.filters.length h.fc, .slice h.bA h.boxes.length h.bc, .slice h.qA h.fifo.length h.qc, .slice h.eA h.queue.length h.ec, .int .i64 h.lost, .int .i64 h.stamp], .bool sent] w
      (Ret hv fun x w' => x.d = h.d.releaseF sent ∧ OwnHost (fun b => w.heap.size ≤ b) w' x ∧ HostAp x ∧ Below w.heap.size w w') := by
  have R : Hid _ := fun W (k : Below w.heap.size w W) => H.below k
  clear H
  go_enter Try.func9, Try.ntmps9
  go_wp2_with fail
  have k0 := heap_old (.cells hzero 37) (heap_new (W := w) (.cells (hostCells h) 37) _ rfl)
  have k1 := heap_new (W := w.alloc (.cells (hostCells h) 37)) (.cells hzero 37) (w.heap.size + 1) (by simp)
  refine (goodHost_any _ h hz _ _ _ _ (R.out _ (by exact (by repeat first | with_reducible exact Below.refl _ _ | with_reducible assumption | with_reducible refine bl_alloc ?_ _ | with_reducible refine bl_drewN ?_ _ | with_reducible refine Below.drew ?_ | (refine bl_set ?_ (by simp <;> omega) _))))).mono ?_; rintro e w1 ⟨rfl, hbb⟩
  have g1 : Below w.heap.size w w1 := bl_then (by repeat first | with_reducible exact Below.refl _ _ | with_reducible assumption | with_reducible refine bl_alloc ?_ _ | with_reducible refine bl_drewN ?_ _ | with_reducible refine Below.drew ?_ | (refine bl_set ?_ (by simp <;> omega) _)) hbb
  replace k0 := heap_below hbb k0
  replace k1 := heap_below hbb k1
  have zz1 := lt_of_heap k1
  have zz0 := lt_of_heap k0
  obtain ⟨c0, c1, c2, c3, c4, c5, c6, c7, c8, c9, cf⟩ := ten k0
  obtain ⟨d0, d1, d2, d3, d4, d5, d6, d7, d8, d9, df⟩ := ten k1
  have K1 : Hid _ := k1
  clear k0 k1 hbb
  by_cases ok : h.d.Ok
  · rw [decide_eq_true ok]
    have OK : Hid _ := ok
    clear ok
    go_wp2_with fail
    clear c0 c1 c2 c3 c4 c5 c6 c7 c8 c9 cf d0 d1 d2 d3 d4 d5 d6 d7 d8 d9 df
    refine (open_any _ h hz OK.out _ _ _ _ (R.out _ g1)).mono ?_; rintro e w2 ⟨⟨g, m, x⟩, rfl, hx, hs, hbb⟩
    have g2 := bl_then g1 hbb
    have K2 : Hid _ := heap_below hbb K1.out
    have zz2 := hbb.size
    have HX : Hid (x.d = h.d) := hx
    have HS : Hid (SideR (fun i => w1.heap.size ≤ i) w2 g m x) := hs
    clear hx hs hbb g1
    go_wp2_with fail
    refine (release_any _ g m x sent (fun i => w1.heap.size ≤ i) (fun i hi => by omega) HS.out (by rw [HX.out]; exact OK.out)).mono ?_; rintro e w3 ⟨y, rfl, hy, hs, hch⟩
    have g3 : Below w.heap.size w w3 := bl_chg g2 hch (fun i hi => by omega)
    have K3 : Hid _ := heap_chg hch K2.out (by omega)
    have HY : Hid (y.d = x.d.release sent) := hy
    have HS3 : Hid _ := hs
    have zz3 := hch.size
    clear hy hs hch g2
    go_wp2_with fail
    refine (close_any _ g m y _ HS3.out (by rw [HY.out, HX.out]; exact release_bd OK.out sent)).mono ?_; rintro e w4 ⟨r, rfl, hr, ho, hap, hbb⟩
    have g4 := bl_then g3 hbb
    have k4 := heap_below hbb K3.out
    have zz4 := lt_of_heap k4
    obtain ⟨d0, d1, d2, d3, d4, d5, d6, d7, d8, d9, df⟩ := ten k4
    have HR : Hid (r.d = y.d) := hr
    have HO : Hid (OwnHost (fun b => w3.heap.size ≤ b) w4 r) := ho
    have HAP : Hid (HostAp r) := hap
    clear hr ho hap hbb g3 k4
    unfold hv
    go_wp2_with fail
    refine bodyPost_ret (v := hv r) (by simp [results, Try.results9, go_sem, hv, *]) rfl (Ret.mk r rfl ⟨?_, ?_, HAP.out, (by repeat first | with_reducible exact Below.refl _ _ | with_reducible assumption | with_reducible refine bl_alloc ?_ _ | with_reducible refine bl_drewN ?_ _ | with_reducible refine Below.drew ?_ | (refine bl_set ?_ (by simp <;> omega) _))⟩)
    · rw [HR.out, HY.out, HX.out]; unfold DHost.releaseF; rw [if_pos OK.out]
    · exact (HO.out.chg (S := fun i => i = w.heap.size + 1) (by repeat first | with_reducible exact Chg.refl _ _ | with_reducible assumption | with_reducible refine Chg.alloc ?_ _ | with_reducible refine Chg.drewN ?_ _ | with_reducible refine Chg.drew ?_ | (refine Chg.set ?_ (by simp <;> omega) _)) (fun i hi _ => by omega)).mono (fun i hi _ => by omega)
  · rw [decide_eq_false ok]
    have OK : Hid _ := ok
    clear ok
    go_wp2_with fail
    refine bodyPost_ret (v := hv LHost.zero) (by simp [results, Try.results9, go_sem, hv, LHost.zero, *]) rfl (Ret.mk LHost.zero rfl ⟨?_, LHost.zero_own _ _, LHost.zero_ap, (by repeat first | with_reducible exact Below.refl _ _ | with_reducible assumption | with_reducible refine bl_alloc ?_ _ | with_reducible refine bl_drewN ?_ _ | with_reducible refine Below.drew ?_ | (refine bl_set ?_ (by simp <;> omega) _))⟩)
    unfold DHost.releaseF; rw [if_neg OK.out]; rfl
end Go.Proofs.Ytcfhjmflnochcaa
