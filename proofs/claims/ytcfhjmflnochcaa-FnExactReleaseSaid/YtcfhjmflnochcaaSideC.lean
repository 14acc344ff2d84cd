/-
  The side closed: a host of new memory that reads as the side does.
-/
import Derived.Test.YtcfhjmflnochcaaSnoc
import Derived.Deep.RegionLaw
set_option linter.unusedVariables false
set_option linter.unusedSimpArgs false
namespace Go.Proofs.Ytcfhjmflnochcaa
open Go.RowKit
variable {p q : Prop}

theorem own_drew {w : World} {base n : Nat} {e : TypeId} {size : Nat} {v : Value} {xs : List Value} (h : w.ownsRow base e size v n xs) : w.drew.ownsRow base e size v n xs := h
/-- A host laid into block n, cell by cell. -/
def set10 (w : World) (n : Nat) (y : LHost) : World :=
  (((((((((w.setCell ⟨n, 0, none⟩ (.int .i64 y.cfg.boxes)).setCell ⟨n, 1, none⟩ (.int .i64 y.cfg.fifo)).setCell ⟨n, 2, none⟩ (.int .i64 y.cfg.policy)).setCell ⟨n, 3, none⟩ (.int .i64 y.cfg.events)).setCell ⟨n, 4, none⟩ (.slice y.fA y.filters.length y.fc)).setCell ⟨n, 5, none⟩ (.slice y.bA y.boxes.length y.bc)).setCell ⟨n, 6, none⟩ (.slice y.qA y.fifo.length y.qc)).setCell ⟨n, 7, none⟩ (.slice y.eA y.queue.length y.ec)).setCell ⟨n, 8, none⟩ (.int .i64 y.lost)).setCell ⟨n, 9, none⟩ (.int .i64 y.stamp)
theorem set10_arr (y : LHost) : ((((((((((hzero.setIfInBounds 0 (.int .i64 y.cfg.boxes)).setIfInBounds 1 (.int .i64 y.cfg.fifo)).setIfInBounds 2 (.int .i64 y.cfg.policy)).setIfInBounds 3 (.int .i64 y.cfg.events)).setIfInBounds 4 (.slice y.fA y.filters.length y.fc)).setIfInBounds 5 (.slice y.bA y.boxes.length y.bc)).setIfInBounds 6 (.slice y.qA y.fifo.length y.qc)).setIfInBounds 7 (.slice y.eA y.queue.length y.ec)).setIfInBounds 8 (.int .i64 y.lost)).setIfInBounds 9 (.int .i64 y.stamp)) = hostCells y := by kernel_rfl
theorem set10_heap {w : World} {n : Nat} (y : LHost) (h : w.heap[n]? = some (.cells hzero 37 (0, 0))) : (set10 w n y).heap[n]? = some (.cells (hostCells y) 37 (0, 0)) := by
  rw [← set10_arr]
  unfold set10
  exact heap_set (heap_set (heap_set (heap_set (heap_set (heap_set (heap_set (heap_set (heap_set (heap_set h rfl) rfl) rfl) rfl) rfl) rfl) rfl) rfl) rfl) rfl
theorem set10_chg (w : World) (n : Nat) (y : LHost) : Chg (fun b => b = n) w (set10 w n y) := by unfold set10; exact (by repeat first | with_reducible exact Chg.refl _ _ | with_reducible assumption | with_reducible refine Chg.alloc ?_ _ | with_reducible refine Chg.drewN ?_ _ | with_reducible refine Chg.drew ?_ | (refine Chg.set ?_ (by simp <;> omega) _))
theorem host0_own {w1 W3 : World} {n3 N : Nat} {x : LHost} {A : Option Addr} {c : Nat} (HO : w1.ownsRow N 102 3 (.slice A (0 + x.filters.length) c) (0 + x.filters.length) ([] ++ x.filters.flatMap DFilter.cs)) (hc : Chg (fun b => b = n3) w1 W3)
    (hty : n3 < w1.heap.size → ∃ cs, w1.heap[n3]? = some (.cells cs 37 (0, 0))) : OwnHost (fun b => N ≤ b ∧ b ≠ n3) W3 (host0 x A c) := by
  rw [Nat.zero_add, List.nil_append] at HO
  have hne : ∀ g, (Value.slice A x.filters.length c).ownBlock = some g → g ≠ n3 := fun g hg he => by
    subst he
    obtain ⟨cs, h1⟩ := hty (own_lt HO hg)
    obtain ⟨cs', h2⟩ := own_type HO hg
    rw [h1] at h2
    injection h2 with h2
    injection h2 with _ h2
    simp at h2
  have h3 := own_chg HO hc hne
  exact ⟨⟨own_base h3 (fun _ _ => Nat.zero_le _), fun g hg => ⟨own_ge HO hg, hne g hg⟩, fun _ _ => .inl rfl, fun _ _ a ha => by cases ha⟩,
    Row.nil (own_nil _ _ _ _) (fun g h => by simp [host0, Value.ownBlock] at h), Row.nil (own_nil _ _ _ _) (fun g h => by simp [host0, Value.ownBlock] at h), Row.nil (own_nil _ _ _ _) (fun g h => by simp [host0, Value.ownBlock] at h)⟩
theorem host0_ap (x : LHost) (A : Option Addr) (c : Nat) : HostAp (host0 x A c) := ⟨List.Pairwise.nil, List.Pairwise.nil, List.Pairwise.nil, fun _ h => absurd h List.not_mem_nil, fun _ h => absurd h List.not_mem_nil, fun _ h => absurd h List.not_mem_nil⟩

set_option maxHeartbeats 40000000 in
set_option maxRecDepth 100000 in
theorem close_any (w : World) (g m : Nat) (x : LHost) (B : Nat → Prop) (H : SideR B w g m x) (bd : x.d.Bd) :
    Calls Try.prog 36 #[.pointer (some ⟨g, 0, none⟩)] w (Ret hv (fun y w' => y.d = x.d ∧ OwnHost (fun b => w.heap.size ≤ b) w' y ∧ HostAp y ∧ Below w.heap.size w w')) := by
  have R : Hid _ := fun W (k : Below w.heap.size w W) => H.below k
  have hg := lt_of_heap H.blk
  have hbl : x.boxes.length ≤ 8 := by rw [← x.blen2]; exact bd.nb
  have hfl : x.filters.length ≤ 16 := bd.nf
  have hql : x.fifo.length ≤ 16 := by have := bd.nq; have := bd.ff1; rw [x.flen] at *; omega
  have hel : x.queue.length ≤ 32 := by have := bd.ne; have := bd.ev1; rw [x.qlen] at *; omega
  have BD : Hid _ := bd
  clear H bd
  go_enter Try.func36, Try.ntmps36
  go_wp2_with fail
  obtain ⟨W0, e0⟩ : ∃ W0, W0 = w.alloc (.cells hzero 37) := ⟨_, rfl⟩
  have b0 : Below w.heap.size w W0 := by rw [e0]; exact (by repeat first | with_reducible exact Below.refl _ _ | with_reducible assumption | with_reducible refine bl_alloc ?_ _ | with_reducible refine bl_drewN ?_ _ | with_reducible refine Below.drew ?_ | (refine bl_set ?_ (by simp <;> omega) _))
  have z0 : W0.heap.size = w.heap.size + 1 := by rw [e0]; simp
  have k0 : Hid (W0.heap[w.heap.size]? = some (.cells hzero 37 (0, 0))) := by rw [e0]; exact heap_new _ _ rfl
  change Code.wp _ _ _ _ (w.alloc (.cells hzero 37))
  rw [← e0]
  clear e0
  have Z0 : Hid _ := z0
  clear z0
  have hS : Hid (∀ W, Below W0.heap.size W0 W → W.cell? ⟨g, 0, none⟩ = some (.int .i64 x.cfg.boxes) ∧ W.cell? ⟨g, 1, none⟩ = some (.int .i64 x.cfg.fifo) ∧ W.cell? ⟨g, 2, none⟩ = some (.int .i64 x.cfg.policy) ∧ W.cell? ⟨g, 3, none⟩ = some (.int .i64 x.cfg.events) ∧ W.cell? ⟨g, 4, none⟩ = some (.slice x.fA x.filters.length x.fc) ∧ W.cell? ⟨g, 11, none⟩ = some (.int .i64 x.lost) ∧ W.cell? ⟨g, 12, none⟩ = some (.int .i64 x.stamp) ∧ Below W0.heap.size W0 W) := fun W hW => by
    obtain ⟨c0, c1, c2, c3, c4, c5, c6, c7, c8, c9, c10, c11, c12, cf⟩ := thirteen (R.out W (bl_then b0 hW)).blk
    exact ⟨c0, c1, c2, c3, c4, c11, c12, hW⟩
  go_region_held3 (fun W => W.cell? ⟨g, 0, none⟩ = some (.int .i64 x.cfg.boxes) ∧ W.cell? ⟨g, 1, none⟩ = some (.int .i64 x.cfg.fifo) ∧ W.cell? ⟨g, 2, none⟩ = some (.int .i64 x.cfg.policy) ∧ W.cell? ⟨g, 3, none⟩ = some (.int .i64 x.cfg.events) ∧ W.cell? ⟨g, 4, none⟩ = some (.slice x.fA x.filters.length x.fc) ∧ W.cell? ⟨g, 11, none⟩ = some (.int .i64 x.lost) ∧ W.cell? ⟨g, 12, none⟩ = some (.int .i64 x.stamp) ∧ Below W0.heap.size W0 W)
    (exact hS.out _ (by repeat first | with_reducible exact Below.refl _ _ | with_reducible assumption | with_reducible refine bl_alloc ?_ _ | with_reducible refine bl_drewN ?_ _ | with_reducible refine Below.drew ?_ | (refine bl_set ?_ (by simp <;> omega) _)))
    ((refine step_app _ rfl (.tmp 14) (.tmp 18) 32 rfl (w.heap.size + 1) 102 _ 3 12 Try.underlying32 infoFilter rfl (by omega) (by omega) (.slice (some ⟨_, 0, none⟩) 0 0) 0 [] rfl (by repeat first | with_reducible refine own_drew ?_ | (refine own_empty _ _ _ _ ?_ _ ?_; (have := Z0.out; simp <;> omega); simp; done) | refine World.ownsRow.alloc ?_ _) 102 x.fA x.filters.length x.fc (x.filters.flatMap DFilter.cs) rfl (by exact (R.out _ (bl_then b0 (by exact (by repeat first | with_reducible exact Below.refl _ _ | with_reducible assumption | with_reducible refine bl_alloc ?_ _ | with_reducible refine bl_drewN ?_ _ | with_reducible refine Below.drew ?_ | (refine bl_set ?_ (by simp <;> omega) _))))).own.hostR.f) (flatMap_len DFilter.cs_len _) (one_filters _) (by omega) (by have := Z0.out; simp <;> omega) ?_
      intro A1 k1 w1 hown hgrow hloc
      have hb1 : Below W0.heap.size W0 w1 := bl_grown (by exact (by repeat first | with_reducible exact Below.refl _ _ | with_reducible assumption | with_reducible refine bl_alloc ?_ _ | with_reducible refine bl_drewN ?_ _ | with_reducible refine Below.drew ?_ | (refine bl_set ?_ (by simp <;> omega) _))) hgrow (fun k hk => by injection hk with hk; dsimp only at hk; omega)
      have HO1 : Hid _ := hown
      first
        | (have hq := heap_grown (b := W0.heap.size + 1) hgrow (heap_new (W := W0.alloc (.cells #[] 102)) (.cells hzero 37) _ (by simp)) (by simp [Value.ownBlock])
           have zq := lt_of_heap hq
           obtain ⟨q0, q1, q2, q3, q4, q5, q6, q7, q8, q9, qf⟩ := ten hq
           have HQ : Hid _ := hq
           clear hq)
        | (have hq := heap_grown (b := W0.heap.size) hgrow (heap_old (.cells #[] 102) (heap_new (W := W0) (.cells hzero 37) _ rfl)) (by simp [Value.ownBlock])
           have zq := lt_of_heap hq
           obtain ⟨q0, q1, q2, q3, q4, q5, q6, q7, q8, q9, qf⟩ := ten hq
           have HQ : Hid _ := hq
           clear hq)
        | skip
      clear hown hgrow hloc))
  all_goals clear hS
  · obtain ⟨n3, hn3⟩ : ∃ n3, n3 = w1.heap.size := ⟨_, rfl⟩
    have P1 := heap_new (W := w1) (.cells (hostCells (host0 x A1 k1)) 37) n3 hn3.symm
    have P2 : Chg (fun b => b = n3) w1 (w1.alloc (.cells (hostCells (host0 x A1 k1)) 37)) := (by repeat first | with_reducible exact Chg.refl _ _ | with_reducible assumption | with_reducible refine Chg.alloc ?_ _ | with_reducible refine Chg.drewN ?_ _ | with_reducible refine Chg.drew ?_ | (refine Chg.set ?_ (by simp <;> omega) _))
    have P3 := host0_own HO1.out P2 (fun h => by omega)
    have P4 : W0.heap.size ≤ n3 := by have := hb1.size; omega
    change Exit.then _ _ _ _ (w1.alloc (.cells (hostCells (host0 x A1 k1)) 37))
    generalize w1.alloc (.cells (hostCells (host0 x A1 k1)) 37) = W3 at P1 P2 P3 ⊢
    rw [← hn3]
    clear hn3
    have b3 : Below w.heap.size w W3 := bl_chg (bl_then b0 hb1) P2 (fun i hi => by have := Z0.out; omega)
    have K3 : Hid _ := heap_chg P2 (heap_below hb1 k0.out) (by have := Z0.out; omega)
    have hn3 : w.heap.size < n3 := by have := Z0.out; omega
    have P3' : Hid (OwnHost (fun b => w.heap.size + 1 ≤ b ∧ b ≠ n3) W3 (host0 x A1 k1)) := P3
    obtain ⟨s0, s1, s2, s3, s4, s5, s6, s7, s8, s9, s10, s11, s12, sf⟩ := thirteen (R.out W3 b3).blk
    clear P3
    go_wp2_with fail
    clear s0 s1 s2 s3 s4 s5 s6 s7 s8 s9 s10 s11 s12 sf
    go_loopw [34] (fun i wr => ∃ (k : Nat) (y : LHost), k ≤ x.boxes.length ∧ i = .int .i64 k ∧ wr.heap[w.heap.size]? = some (.cells hzero 37 (0, 0)) ∧ wr.heap[n3]? = some (.cells (hostCells y) 37 (0, 0)) ∧ Hid (OwnHost (fun b => w.heap.size + 1 ≤ b ∧ b ≠ n3) wr y) ∧ Hid (HostAp y) ∧ Hid (y.d = { x.d with boxes := x.d.boxes.take k, fifo := x.d.fifo.take 0, queue := x.d.queue.take 0 }) ∧ Below w.heap.size w wr) (fun i _ => x.boxes.length - (intOf i).toNat)
    case atStart => exact ⟨0, host0 x A1 k1, by omega, rfl, K3.out, P1, P3', host0_ap _ _ _, host0_d _ _ _, b3⟩
    case round =>
      clear K3 P1 P2 P3' b3 HO1 hb1
      obtain ⟨k, y, hk, rfl, hz0, h3, ho, hap, hd, hb⟩ := hrel
      have HZ0 : Hid _ := hz0
      have H3 : Hid _ := h3
      have hyl : y.boxes.length ≤ 32 := by have := congrArg (fun d => d.boxes.length) hd.out; simp [LHost.d] at this; omega
      have z3 := lt_of_heap h3
      clear hz0 h3
      by_cases hlt : k < x.boxes.length
      · have RB := (R.out wr hb).own.hostR.b
        obtain ⟨gb, o, hA, hgb, ⟨e0, e1, e2, e3, e4, e5, e6, e7⟩⟩ := boxAt RB.1 k hlt
        rw [hA]
        obtain ⟨z, hz⟩ : ∃ z, z = x.boxes[k] := ⟨_, rfl⟩
        have HF : Hid (FrameR True wr z.f) := by rw [hz]; exact RB.2 _ (List.getElem_mem hlt)
        have HD : z.f.data.length ≤ 8 := by rw [hz]; exact BD.out.bd _ (List.mem_map_of_mem (List.getElem_mem hlt))
        rw [← hz] at e0 e1 e2 e3 e4 e5 e6 e7
        have HZ : Hid _ := hz
        clear hz hA RB
        go_wp2_with fail
        refine (copyFrame_any _ z.f (by omega) (HF.out.below (by exact (by repeat first | with_reducible exact Below.refl _ _ | with_reducible assumption | with_reducible refine bl_alloc ?_ _ | with_reducible refine bl_drewN ?_ _ | with_reducible refine Below.drew ?_ | (refine bl_set ?_ (by simp <;> omega) _))))).mono ?_; rintro e wC ⟨A', c', rfl, R', G', hbb⟩
        have g1 : Below wr.heap.size wr wC := bl_then (by exact (by repeat first | with_reducible exact Below.refl _ _ | with_reducible assumption | with_reducible refine bl_alloc ?_ _ | with_reducible refine bl_drewN ?_ _ | with_reducible refine Below.drew ?_ | (refine bl_set ?_ (by simp <;> omega) _))) hbb
        have hbC : Below w.heap.size w wC := bl_then hb g1
        have kb := heap_below hbb (heap_new (W := wr) _ _ rfl)
        have kn := heap_below g1 H3.out
        have kz : Hid _ := heap_below g1 HZ0.out
        have OC : Hid (OwnHost (fun b => w.heap.size + 1 ≤ b ∧ b ≠ n3 ∧ b ≠ wr.heap.size) wC y) := (ho.out.mono (fun i hi hl => ⟨hi.1, hi.2, by omega⟩)).below g1
        have I1 : Hid (InA (wr.heap.size + 1) wC.heap.size A') := fun a ha => by have := G' a ha; simp at this; omega
        have R1 : Hid _ := R'
        obtain ⟨d0, d1, d2, d3, d4, d5, d6, d7, df⟩ := eight kb
        obtain ⟨t0, t1, t2, t3, t4, t5, t6, t7, t8, t9, tf⟩ := ten kn
        have zC := lt_of_heap kb
        have zn := lt_of_heap kn
        have zb := hb.size
        have KN : Hid _ := kn
        obtain ⟨v, hv⟩ : ∃ v : LBox, v = ⟨z.state, z.tag, z.stamp, ⟨z.f.ext, z.f.id, z.f.rtr, z.f.dlc, A', c', z.f.data⟩⟩ := ⟨_, rfl⟩
        have HV : Hid _ := hv
        clear hv kb kn hbb R' G' e0 e1 e2 e3 e4 e5 e6 e7 g1 hb
        go_wp2_with (at_builtin; refine wpl_app _ rfl (.tmp 43) (.tmp 45) 33 rfl 0 98 _ 8 72 Try.underlying33 infoBox rfl (by omega) (by omega) _ y.boxes.length _ rfl (by exact own_chg (S := fun b => b = wr.heap.size) OC.out.b.own (by repeat first | with_reducible exact Chg.refl _ _ | with_reducible assumption | with_reducible refine Chg.alloc ?_ _ | with_reducible refine Chg.drewN ?_ _ | with_reducible refine Chg.drew ?_ | (refine Chg.set ?_ (by simp <;> omega) _)) (fun g hg => (OC.out.b.at_ g hg).2.2)) 98 _ 1 1 v.cs rfl (by rw [HV.out]; exact cells_new _ [_, _, _, _, _, _, _, _] _ _ (by simp)) rfl (one_box _) (by omega) (Nat.zero_le _) ?_)
        intro A2 c2 w2 hown2 hgrow hloc
        have hb2 : Below w.heap.size w w2 := bl_grown (by exact (by repeat first | with_reducible exact Below.refl _ _ | with_reducible assumption | with_reducible refine bl_alloc ?_ _ | with_reducible refine bl_drewN ?_ _ | with_reducible refine Below.drew ?_ | (refine bl_set ?_ (by simp <;> omega) _))) hgrow (fun g hg => by have := (OC.out.b.at_ g hg).1; omega)
        have kn2 := heap_grown hgrow (heap_chg (S := fun b => b = wr.heap.size) (by exact (by repeat first | with_reducible exact Chg.refl _ _ | with_reducible assumption | with_reducible refine Chg.alloc ?_ _ | with_reducible refine Chg.drewN ?_ _ | with_reducible refine Chg.drew ?_ | (refine Chg.set ?_ (by simp <;> omega) _))) KN.out (by omega)) (fun e => (OC.out.b.at_ _ e.symm).2.1 rfl)
        have kz2 := heap_grown hgrow (heap_chg (S := fun b => b = wr.heap.size) (by exact (by repeat first | with_reducible exact Chg.refl _ _ | with_reducible assumption | with_reducible refine Chg.alloc ?_ _ | with_reducible refine Chg.drewN ?_ _ | with_reducible refine Chg.drew ?_ | (refine Chg.set ?_ (by simp <;> omega) _))) kz.out (by omega)) (fun e => by have := (OC.out.b.at_ _ e.symm).1; omega)
        have O2 : Hid (OwnHost (fun b => w.heap.size + 1 ≤ b ∧ b ≠ n3 ∧ b ≠ wr.heap.size) w2 { y with boxes := y.boxes ++ [v], bA := A2, bc := c2 }) := OwnHost.snocB (H := by exact OC.out.chg (S := fun b => b = wr.heap.size) (by repeat first | with_reducible exact Chg.refl _ _ | with_reducible assumption | with_reducible refine Chg.alloc ?_ _ | with_reducible refine Chg.drewN ?_ _ | with_reducible refine Chg.drew ?_ | (refine Chg.set ?_ (by simp <;> omega) _)) (fun b hb _ => hb.2.2)) (z := v) (ho := hown2) (hg := hgrow) (hl := hloc) (hn := by simp; omega) (hR := by rw [HV.out]; exact Cells.chg (S := fun b => b = wr.heap.size) R1.out (by repeat first | with_reducible exact Chg.refl _ _ | with_reducible assumption | with_reducible refine Chg.alloc ?_ _ | with_reducible refine Chg.drewN ?_ _ | with_reducible refine Chg.drew ?_ | (refine Chg.set ?_ (by simp <;> omega) _)) (fun a ha => by have := I1.out a ha; omega)) (hI := by rw [HV.out]; exact fun a ha => by have := I1.out a ha; simp; omega)
        have AP2 : Hid (HostAp { y with boxes := y.boxes ++ [v], bA := A2, bc := c2 }) := hap.out.snocB ho.out.dataLt v (by rw [HV.out]; exact fun a ha => by have := I1.out a ha; omega) A2 c2
        have D2 : Hid (LHost.d { y with boxes := y.boxes ++ [v], bA := A2, bc := c2 } = { x.d with boxes := x.d.boxes.take (k + 1), fifo := x.d.fifo.take 0, queue := x.d.queue.take 0 }) := by
          have h1 : LHost.d { y with boxes := y.boxes ++ [v], bA := A2, bc := c2 } = { y.d with boxes := y.d.boxes ++ [v.d] } := by simp [LHost.d]
          have h2 : k < x.d.boxes.length := by simpa [LHost.d] using hlt
          have h4 : x.d.boxes[k] = v.d := by simp only [LHost.d, List.getElem_map]; rw [← HZ.out, HV.out]; rfl
          rw [h1, hd.out]
          show _ = _
          rw [List.take_succ_eq_append_getElem h2, h4]
        have KN2 : Hid _ := kn2
        obtain ⟨u0, u1, u2, u3, u4, u5, u6, u7, u8, u9, uf⟩ := ten kn2
        have zn2 := lt_of_heap kn2
        have KZ2 : Hid _ := kz2
        clear kn2 kz2 hgrow hloc hown2 d0 d1 d2 d3 d4 d5 d6 d7 df t0 t1 t2 t3 t4 t5 t6 t7 t8 t9 tf
        go_wp2_with fail
        go_roundw
        case rel =>
          refine ⟨k + 1, { y with boxes := y.boxes ++ [v], bA := A2, bc := c2 }, by omega, by go_num, heap_far KZ2.out (by simp; omega), ?_, (O2.out.chg (S := fun b => b = n3) (by repeat first | with_reducible exact Chg.refl _ _ | with_reducible assumption | with_reducible refine Chg.alloc ?_ _ | with_reducible refine Chg.drewN ?_ _ | with_reducible refine Chg.drew ?_ | (refine Chg.set ?_ (by simp <;> omega) _)) (fun b hb _ => hb.2.1)).mono (fun b hb _ => ⟨hb.1, hb.2.1⟩), AP2.out, D2.out, (by repeat first | with_reducible exact Below.refl _ _ | with_reducible assumption | with_reducible refine bl_alloc ?_ _ | with_reducible refine bl_drewN ?_ _ | with_reducible refine Below.drew ?_ | (refine bl_set ?_ (by simp <;> omega) _))⟩
          rw [heap_set KN2.out rfl]; simp [hostCells]
        case measure => simp [intOf]; omega
      · have hke : k = x.boxes.length := by omega
        have D1 : Hid (y.d = { x.d with boxes := x.d.boxes.take x.boxes.length, fifo := x.d.fifo.take 0, queue := x.d.queue.take 0 }) := by have := hd.out; rw [hke] at this; exact this
        clear hke
        obtain ⟨s0, s1, s2, s3, s4, s5, s6, s7, s8, s9, s10, s11, s12, sf⟩ := thirteen (R.out wr hb).blk
        go_wp2_with fail
        clear s0 s1 s2 s3 s4 s5 s6 s7 s8 s9 s10 s11 s12 sf
        go_loopw [55] (fun i wr => ∃ (k : Nat) (y : LHost), k ≤ x.fifo.length ∧ i = .int .i64 k ∧ wr.heap[w.heap.size]? = some (.cells hzero 37 (0, 0)) ∧ wr.heap[n3]? = some (.cells (hostCells y) 37 (0, 0)) ∧ Hid (OwnHost (fun b => w.heap.size + 1 ≤ b ∧ b ≠ n3) wr y) ∧ Hid (HostAp y) ∧ Hid (y.d = { x.d with boxes := x.d.boxes.take x.boxes.length, fifo := x.d.fifo.take k, queue := x.d.queue.take 0 }) ∧ Below w.heap.size w wr) (fun i _ => x.fifo.length - (intOf i).toNat)
        case atStart => exact ⟨0, y, by omega, rfl, HZ0.out, H3.out, ho.out, hap.out, D1.out, hb⟩
        case round =>
          clear HZ0 H3 ho hap hd D1 hb hyl z3
          obtain ⟨k, y, hk, rfl, hz0, h3, ho, hap, hd, hb⟩ := hrel
          have HZ0 : Hid _ := hz0
          have H3 : Hid _ := h3
          have hyl : y.fifo.length ≤ 32 := by have := congrArg (fun d => d.fifo.length) hd.out; simp [LHost.d] at this; omega
          have z3 := lt_of_heap h3
          clear hz0 h3
          by_cases hlt : k < x.fifo.length
          · have RB := (R.out wr hb).own.hostR.q
            obtain ⟨gb, o, hA, hgb, ⟨e0, e1, e2, e3, e4⟩⟩ := frameAt RB.1 k hlt
            rw [hA]
            obtain ⟨z, hz⟩ : ∃ z, z = x.fifo[k] := ⟨_, rfl⟩
            have HF : Hid (FrameR True wr z) := by rw [hz]; exact RB.2 _ (List.getElem_mem hlt)
            have HD : z.data.length ≤ 8 := by rw [hz]; exact BD.out.qd _ (List.mem_map_of_mem (List.getElem_mem hlt))
            rw [← hz] at e0 e1 e2 e3 e4
            have HZ : Hid _ := hz
            clear hz hA RB
            go_wp2_with fail
            obtain ⟨WB, eB⟩ : ∃ W, W = wr.alloc (.cells #[.bool z.ext, .int .u32 z.id, .bool z.rtr, .int .i64 z.dlc, .slice z.A z.data.length z.cap] 49) := ⟨_, rfl⟩
            rw [← eB]
            have bB : Below wr.heap.size wr WB := by rw [eB]; exact (by repeat first | with_reducible exact Below.refl _ _ | with_reducible assumption | with_reducible refine bl_alloc ?_ _ | with_reducible refine bl_drewN ?_ _ | with_reducible refine Below.drew ?_ | (refine bl_set ?_ (by simp <;> omega) _))
            have zB : WB.heap.size = wr.heap.size + 1 := by rw [eB]; simp
            have kB : WB.heap[wr.heap.size]? = some (.cells #[.bool z.ext, .int .u32 z.id, .bool z.rtr, .int .i64 z.dlc, .slice z.A z.data.length z.cap] 49 (0, 0)) := by rw [eB]; exact heap_new _ _ rfl
            clear eB e0 e1 e2 e3 e4
            obtain ⟨d0, d1, d2, d3, d4, df⟩ := five kB
            have kn := heap_below bB H3.out
            have OB : Hid (OwnHost (fun b => w.heap.size + 1 ≤ b ∧ b ≠ n3 ∧ b ≠ wr.heap.size) WB y) := (ho.out.mono (fun i hi hl => ⟨hi.1, hi.2, by omega⟩)).below bB
            have HFB : Hid _ := HF.out.below bB
            have KZB : Hid _ := heap_below bB HZ0.out
            have hbB : Below w.heap.size w WB := bl_then hb bB
            have zb := hb.size
            have KNB : Hid _ := kn
            obtain ⟨t0, t1, t2, t3, t4, t5, t6, t7, t8, t9, tf⟩ := ten kn
            have ZB : Hid _ := zB
            clear kn kB zB
            go_region_law
              (first
                | (refine step_app _ rfl (.tmp 60) (.tmp 63) 34 rfl 0 49 _ 5 48 Try.underlying34 infoFrame rfl (by omega) (by omega) _ y.fifo.length _ rfl (by exact own_chg (S := fun _ => False) OC.out.q.own (by repeat first | with_reducible exact Chg.refl _ _ | with_reducible assumption | with_reducible refine Chg.alloc ?_ _ | with_reducible refine Chg.drewN ?_ _ | with_reducible refine Chg.drew ?_ | (refine Chg.set ?_ (by simp <;> omega) _)) (fun _ _ h => h)) 49 _ 1 1 v.cs rfl (by rw [HV.out]; exact cells_new _ [_, _, _, _, _] _ _ (by simp)) rfl (one_frame _) (by omega) (Nat.zero_le _) ?_
                   intro A2 c2 w2 hown2 hgrow hloc
                   have hch2 : Chg (fun b => w.heap.size + 1 ≤ b ∧ b ≠ wr.heap.size) WB w2 := Chg.trans (by exact (by repeat first | with_reducible exact Chg.refl _ _ | with_reducible assumption | with_reducible refine Chg.alloc ?_ _ | with_reducible refine Chg.drewN ?_ _ | with_reducible refine Chg.drew ?_ | (refine Chg.set ?_ (by simp <;> omega) _))) (Chg.grown hgrow (fun g hg _ => ⟨(OC.out.q.at_ g hg).1, (OC.out.q.at_ g hg).2.2⟩)) (fun _ _ h => h)
                   have kn2 := heap_grown hgrow (heap_old _ KNC.out) (fun e => (OC.out.q.at_ _ e.symm).2.1 rfl)
                   have KZ2 : Hid _ := heap_grown hgrow (heap_old _ KZC.out) (fun e => by have := (OC.out.q.at_ _ e.symm).1; omega)
                   have O2 : Hid (OwnHost (fun b => w.heap.size + 1 ≤ b ∧ b ≠ n3 ∧ b ≠ wr.heap.size) w2 { y with fifo := y.fifo ++ [v], qA := A2, qc := c2 }) := OwnHost.snocF (H := by exact OC.out.chg (S := fun _ => False) (by repeat first | with_reducible exact Chg.refl _ _ | with_reducible assumption | with_reducible refine Chg.alloc ?_ _ | with_reducible refine Chg.drewN ?_ _ | with_reducible refine Chg.drew ?_ | (refine Chg.set ?_ (by simp <;> omega) _)) (fun _ _ _ h => h)) (z := v) (ho := hown2) (hg := hgrow) (hl := hloc) (hn := by have := zC.out; have := ZB.out; simp; omega) (hR := by rw [HV.out]; exact Cells.chg (S := fun _ => False) R1.out (by repeat first | with_reducible exact Chg.refl _ _ | with_reducible assumption | with_reducible refine Chg.alloc ?_ _ | with_reducible refine Chg.drewN ?_ _ | with_reducible refine Chg.drew ?_ | (refine Chg.set ?_ (by simp <;> omega) _)) (fun _ _ h => h)) (hI := by rw [HV.out]; exact fun a ha => by have := I1.out a ha; simp; omega)
                   obtain ⟨u0, u1, u2, u3, u4, u5, u6, u7, u8, u9, uf⟩ := ten kn2
                   have zn2 := lt_of_heap kn2
                   have KN2 : Hid _ := kn2
                   clear kn2 hgrow hloc hown2)
                | (go_simp
                   go_at_call 82
                   refine (copyFrame_any _ z (by omega) (FrameR.below HFB.out (by exact (by repeat first | with_reducible exact Below.refl _ _ | with_reducible assumption | with_reducible refine bl_alloc ?_ _ | with_reducible refine bl_drewN ?_ _ | with_reducible refine Below.drew ?_ | (refine bl_set ?_ (by simp <;> omega) _))))).mono ?_
                   rintro e wC ⟨A', c', rfl, R', G', hbb⟩
                   have g1 : Below WB.heap.size WB wC := bl_then (by exact (by repeat first | with_reducible exact Below.refl _ _ | with_reducible assumption | with_reducible refine bl_alloc ?_ _ | with_reducible refine bl_drewN ?_ _ | with_reducible refine Below.drew ?_ | (refine bl_set ?_ (by simp <;> omega) _))) hbb
                   have hch1 : Chg (fun b => w.heap.size + 1 ≤ b ∧ b ≠ wr.heap.size) WB wC := Chg.of_below g1 _
                   have knC := heap_below g1 KNB.out
                   obtain ⟨p0, p1, p2, p3, p4, p5, p6, p7, p8, p9, pf⟩ := ten knC
                   have znC := lt_of_heap knC
                   have KNC : Hid _ := knC
                   have zC : Hid _ := g1.size
                   have KZC : Hid _ := heap_below g1 KZB.out
                   have OC : Hid _ := OB.out.below g1
                   have I1 : Hid (InA (wr.heap.size + 1) wC.heap.size A') := fun a ha => by have := G' a ha; have := ZB.out; simp at *; omega
                   have R1 : Hid _ := R'
                   obtain ⟨v, hv⟩ : ∃ v : LFrame, v = ⟨z.ext, z.id, z.rtr, z.dlc, A', c', z.data⟩ := ⟨_, rfl⟩
                   have HV : Hid _ := hv
                   clear hv R' G' hbb knC
                   go_wp2_with fail))
            all_goals (
              clear d0 d1 d2 d3 d4 df
              have hb2 : Below w.heap.size w w2 := bl_chg hbB hch2 (fun b hb => by omega)
              have AP2 : Hid (HostAp { y with fifo := y.fifo ++ [v], qA := A2, qc := c2 }) := hap.out.snocF ho.out.dataLt v (by rw [HV.out]; exact fun a ha => by have := I1.out a ha; omega) A2 c2
              have D2 : Hid (LHost.d { y with fifo := y.fifo ++ [v], qA := A2, qc := c2 } = { x.d with boxes := x.d.boxes.take x.boxes.length, fifo := x.d.fifo.take (k + 1), queue := x.d.queue.take 0 }) := by
                have h1 : LHost.d { y with fifo := y.fifo ++ [v], qA := A2, qc := c2 } = { y.d with fifo := y.d.fifo ++ [v.d] } := by simp [LHost.d]
                have h2 : k < x.d.fifo.length := by simpa [LHost.d] using hlt
                have h4 : x.d.fifo[k] = v.d := by simp only [LHost.d, List.getElem_map]; rw [← HZ.out, HV.out]; rfl
                rw [h1, hd.out]
                show _ = _
                rw [List.take_succ_eq_append_getElem h2, h4]
              go_wp2_with fail
              go_roundw
              case rel =>
                refine ⟨k + 1, { y with fifo := y.fifo ++ [v], qA := A2, qc := c2 }, by omega, by go_num, heap_far KZ2.out (by simp; omega), ?_, (O2.out.chg (S := fun b => b = n3) (by repeat first | with_reducible exact Chg.refl _ _ | with_reducible assumption | with_reducible refine Chg.alloc ?_ _ | with_reducible refine Chg.drewN ?_ _ | with_reducible refine Chg.drew ?_ | (refine Chg.set ?_ (by simp <;> omega) _)) (fun b hb _ => hb.2.1)).mono (fun b hb _ => ⟨hb.1, hb.2.1⟩), AP2.out, D2.out, (by repeat first | with_reducible exact Below.refl _ _ | with_reducible assumption | with_reducible refine bl_alloc ?_ _ | with_reducible refine bl_drewN ?_ _ | with_reducible refine Below.drew ?_ | (refine bl_set ?_ (by simp <;> omega) _))⟩
                rw [heap_set KN2.out rfl]; simp [hostCells]
              case measure => simp [intOf]; omega)
          · have hke : k = x.fifo.length := by omega
            have D1 : Hid (y.d = { x.d with boxes := x.d.boxes.take x.boxes.length, fifo := x.d.fifo.take x.fifo.length, queue := x.d.queue.take 0 }) := by have := hd.out; rw [hke] at this; exact this
            clear hke
            obtain ⟨s0, s1, s2, s3, s4, s5, s6, s7, s8, s9, s10, s11, s12, sf⟩ := thirteen (R.out wr hb).blk
            go_wp2_with fail
            clear s0 s1 s2 s3 s4 s5 s6 s7 s8 s9 s10 s11 s12 sf
            go_loopw [73] (fun i wr => ∃ (k : Nat) (y : LHost), k ≤ x.queue.length ∧ i = .int .i64 k ∧ wr.heap[w.heap.size]? = some (.cells hzero 37 (0, 0)) ∧ wr.heap[n3]? = some (.cells (hostCells y) 37 (0, 0)) ∧ Hid (OwnHost (fun b => w.heap.size + 1 ≤ b ∧ b ≠ n3) wr y) ∧ Hid (HostAp y) ∧ Hid (y.d = { x.d with boxes := x.d.boxes.take x.boxes.length, fifo := x.d.fifo.take x.fifo.length, queue := x.d.queue.take k }) ∧ Below w.heap.size w wr) (fun i _ => x.queue.length - (intOf i).toNat)
            case atStart => exact ⟨0, y, by omega, rfl, HZ0.out, H3.out, ho.out, hap.out, D1.out, hb⟩
            case round =>
              clear HZ0 H3 ho hap hd D1 hb hyl z3
              obtain ⟨k, y, hk, rfl, hz0, h3, ho, hap, hd, hb⟩ := hrel
              have HZ0 : Hid _ := hz0
              have H3 : Hid _ := h3
              have hyl : y.queue.length ≤ 32 := by have := congrArg (fun d => d.queue.length) hd.out; simp [LHost.d] at this; omega
              have z3 := lt_of_heap h3
              clear hz0 h3
              by_cases hlt : k < x.queue.length
              · have RB := (R.out wr hb).own.hostR.e
                obtain ⟨gb, o, hA, hgb, ⟨e0, e1, e2, e3, e4, e5, e6, e7⟩⟩ := eventAt RB.1 k hlt
                rw [hA]
                obtain ⟨z, hz⟩ : ∃ z, z = x.queue[k] := ⟨_, rfl⟩
                have HF : Hid (FrameR True wr z.f) := by rw [hz]; exact RB.2 _ (List.getElem_mem hlt)
                have HD : z.f.data.length ≤ 8 := by rw [hz]; exact BD.out.ed _ (List.mem_map_of_mem (List.getElem_mem hlt))
                rw [← hz] at e0 e1 e2 e3 e4 e5 e6 e7
                have HZ : Hid _ := hz
                clear hz hA RB
                go_wp2_with fail
                refine (copyFrame_any _ z.f (by omega) (HF.out.below (by exact (by repeat first | with_reducible exact Below.refl _ _ | with_reducible assumption | with_reducible refine bl_alloc ?_ _ | with_reducible refine bl_drewN ?_ _ | with_reducible refine Below.drew ?_ | (refine bl_set ?_ (by simp <;> omega) _))))).mono ?_; rintro e wC ⟨A', c', rfl, R', G', hbb⟩
                have g1 : Below wr.heap.size wr wC := bl_then (by exact (by repeat first | with_reducible exact Below.refl _ _ | with_reducible assumption | with_reducible refine bl_alloc ?_ _ | with_reducible refine bl_drewN ?_ _ | with_reducible refine Below.drew ?_ | (refine bl_set ?_ (by simp <;> omega) _))) hbb
                have hbC : Below w.heap.size w wC := bl_then hb g1
                have kb := heap_below hbb (heap_new (W := wr) _ _ rfl)
                have kn := heap_below g1 H3.out
                have kz : Hid _ := heap_below g1 HZ0.out
                have OC : Hid (OwnHost (fun b => w.heap.size + 1 ≤ b ∧ b ≠ n3 ∧ b ≠ wr.heap.size) wC y) := (ho.out.mono (fun i hi hl => ⟨hi.1, hi.2, by omega⟩)).below g1
                have I1 : Hid (InA (wr.heap.size + 1) wC.heap.size A') := fun a ha => by have := G' a ha; simp at this; omega
                have R1 : Hid _ := R'
                obtain ⟨d0, d1, d2, d3, d4, d5, d6, d7, df⟩ := eight kb
                obtain ⟨t0, t1, t2, t3, t4, t5, t6, t7, t8, t9, tf⟩ := ten kn
                have zC := lt_of_heap kb
                have zn := lt_of_heap kn
                have zb := hb.size
                have KN : Hid _ := kn
                obtain ⟨v, hv⟩ : ∃ v : LEvent, v = ⟨z.kind, z.a, z.b, ⟨z.f.ext, z.f.id, z.f.rtr, z.f.dlc, A', c', z.f.data⟩⟩ := ⟨_, rfl⟩
                have HV : Hid _ := hv
                clear hv kb kn hbb R' G' e0 e1 e2 e3 e4 e5 e6 e7 g1 hb
                go_wp2_with (at_builtin; refine wpl_app _ rfl (.tmp 82) (.tmp 84) 35 rfl 0 95 _ 8 72 Try.underlying35 infoEvent rfl (by omega) (by omega) _ y.queue.length _ rfl (by exact own_chg (S := fun b => b = wr.heap.size) OC.out.e.own (by repeat first | with_reducible exact Chg.refl _ _ | with_reducible assumption | with_reducible refine Chg.alloc ?_ _ | with_reducible refine Chg.drewN ?_ _ | with_reducible refine Chg.drew ?_ | (refine Chg.set ?_ (by simp <;> omega) _)) (fun g hg => (OC.out.e.at_ g hg).2.2)) 95 _ 1 1 v.cs rfl (by rw [HV.out]; exact cells_new _ [_, _, _, _, _, _, _, _] _ _ (by simp)) rfl (one_event _) (by omega) (Nat.zero_le _) ?_)
                intro A2 c2 w2 hown2 hgrow hloc
                have hb2 : Below w.heap.size w w2 := bl_grown (by exact (by repeat first | with_reducible exact Below.refl _ _ | with_reducible assumption | with_reducible refine bl_alloc ?_ _ | with_reducible refine bl_drewN ?_ _ | with_reducible refine Below.drew ?_ | (refine bl_set ?_ (by simp <;> omega) _))) hgrow (fun g hg => by have := (OC.out.e.at_ g hg).1; omega)
                have kn2 := heap_grown hgrow (heap_chg (S := fun b => b = wr.heap.size) (by exact (by repeat first | with_reducible exact Chg.refl _ _ | with_reducible assumption | with_reducible refine Chg.alloc ?_ _ | with_reducible refine Chg.drewN ?_ _ | with_reducible refine Chg.drew ?_ | (refine Chg.set ?_ (by simp <;> omega) _))) KN.out (by omega)) (fun e => (OC.out.e.at_ _ e.symm).2.1 rfl)
                have kz2 := heap_grown hgrow (heap_chg (S := fun b => b = wr.heap.size) (by exact (by repeat first | with_reducible exact Chg.refl _ _ | with_reducible assumption | with_reducible refine Chg.alloc ?_ _ | with_reducible refine Chg.drewN ?_ _ | with_reducible refine Chg.drew ?_ | (refine Chg.set ?_ (by simp <;> omega) _))) kz.out (by omega)) (fun e => by have := (OC.out.e.at_ _ e.symm).1; omega)
                have O2 : Hid (OwnHost (fun b => w.heap.size + 1 ≤ b ∧ b ≠ n3 ∧ b ≠ wr.heap.size) w2 { y with queue := y.queue ++ [v], eA := A2, ec := c2 }) := OwnHost.snocE (H := by exact OC.out.chg (S := fun b => b = wr.heap.size) (by repeat first | with_reducible exact Chg.refl _ _ | with_reducible assumption | with_reducible refine Chg.alloc ?_ _ | with_reducible refine Chg.drewN ?_ _ | with_reducible refine Chg.drew ?_ | (refine Chg.set ?_ (by simp <;> omega) _)) (fun b hb _ => hb.2.2)) (z := v) (ho := hown2) (hg := hgrow) (hl := hloc) (hn := by simp; omega) (hR := by rw [HV.out]; exact Cells.chg (S := fun b => b = wr.heap.size) R1.out (by repeat first | with_reducible exact Chg.refl _ _ | with_reducible assumption | with_reducible refine Chg.alloc ?_ _ | with_reducible refine Chg.drewN ?_ _ | with_reducible refine Chg.drew ?_ | (refine Chg.set ?_ (by simp <;> omega) _)) (fun a ha => by have := I1.out a ha; omega)) (hI := by rw [HV.out]; exact fun a ha => by have := I1.out a ha; simp; omega)
                have AP2 : Hid (HostAp { y with queue := y.queue ++ [v], eA := A2, ec := c2 }) := hap.out.snocE ho.out.dataLt v (by rw [HV.out]; exact fun a ha => by have := I1.out a ha; omega) A2 c2
                have D2 : Hid (LHost.d { y with queue := y.queue ++ [v], eA := A2, ec := c2 } = { x.d with boxes := x.d.boxes.take x.boxes.length, fifo := x.d.fifo.take x.fifo.length, queue := x.d.queue.take (k + 1) }) := by
                  have h1 : LHost.d { y with queue := y.queue ++ [v], eA := A2, ec := c2 } = { y.d with queue := y.d.queue ++ [v.d] } := by simp [LHost.d]
                  have h2 : k < x.d.queue.length := by simpa [LHost.d] using hlt
                  have h4 : x.d.queue[k] = v.d := by simp only [LHost.d, List.getElem_map]; rw [← HZ.out, HV.out]; rfl
                  rw [h1, hd.out]
                  show _ = _
                  rw [List.take_succ_eq_append_getElem h2, h4]
                have KN2 : Hid _ := kn2
                obtain ⟨u0, u1, u2, u3, u4, u5, u6, u7, u8, u9, uf⟩ := ten kn2
                have zn2 := lt_of_heap kn2
                have KZ2 : Hid _ := kz2
                clear kn2 kz2 hgrow hloc hown2 d0 d1 d2 d3 d4 d5 d6 d7 df t0 t1 t2 t3 t4 t5 t6 t7 t8 t9 tf
                go_wp2_with fail
                go_roundw
                case rel =>
                  refine ⟨k + 1, { y with queue := y.queue ++ [v], eA := A2, ec := c2 }, by omega, by go_num, heap_far KZ2.out (by simp; omega), ?_, (O2.out.chg (S := fun b => b = n3) (by repeat first | with_reducible exact Chg.refl _ _ | with_reducible assumption | with_reducible refine Chg.alloc ?_ _ | with_reducible refine Chg.drewN ?_ _ | with_reducible refine Chg.drew ?_ | (refine Chg.set ?_ (by simp <;> omega) _)) (fun b hb _ => hb.2.1)).mono (fun b hb _ => ⟨hb.1, hb.2.1⟩), AP2.out, D2.out, (by repeat first | with_reducible exact Below.refl _ _ | with_reducible assumption | with_reducible refine bl_alloc ?_ _ | with_reducible refine bl_drewN ?_ _ | with_reducible refine Below.drew ?_ | (refine bl_set ?_ (by simp <;> omega) _))⟩
                  rw [heap_set KN2.out rfl]; simp [hostCells]
                case measure => simp [intOf]; omega
              · have hke : k = x.queue.length := by omega
                have D1 : Hid (y.d = { x.d with boxes := x.d.boxes.take x.boxes.length, fifo := x.d.fifo.take x.fifo.length, queue := x.d.queue.take x.queue.length }) := by have := hd.out; rw [hke] at this; exact this
                clear hke
                obtain ⟨c0, c1, c2, c3, c4, c5, c6, c7, c8, c9, cf⟩ := ten H3.out
                obtain ⟨f0, f1, f2, f3, f4, f5, f6, f7, f8, f9, ff⟩ := ten HZ0.out
                have zb := hb.size
                go_wp2_with fail
                refine bodyPost_ret (v := hv y) (by simp [results, Try.results36, go_sem, hv, *]) rfl (Ret.mk y rfl ⟨?_, ?_, hap.out, (by repeat first | with_reducible exact Below.refl _ _ | with_reducible assumption | with_reducible refine bl_alloc ?_ _ | with_reducible refine bl_drewN ?_ _ | with_reducible refine Below.drew ?_ | (refine bl_set ?_ (by simp <;> omega) _))⟩)
                · rw [D1.out, List.take_of_length_le (by simp [LHost.d]), List.take_of_length_le (by simp [LHost.d]), List.take_of_length_le (by simp [LHost.d])]
                · exact (ho.out.chg (S := fun b => b = w.heap.size) (by repeat first | with_reducible exact Chg.refl _ _ | with_reducible assumption | with_reducible refine Chg.alloc ?_ _ | with_reducible refine Chg.drewN ?_ _ | with_reducible refine Chg.drew ?_ | (refine Chg.set ?_ (by simp <;> omega) _)) (fun b hb _ => by omega)).mono (fun b hb _ => by omega)
  · obtain ⟨n3, hn3⟩ : ∃ n3, n3 = W0.heap.size + 1 := ⟨_, rfl⟩
    change Exit.then _ _ _ _ (set10 w1 (W0.heap.size + 1) (host0 x A1 k1))
    rw [← hn3] at HQ ⊢
    have P1 := set10_heap (host0 x A1 k1) HQ.out
    have P2 := set10_chg w1 n3 (host0 x A1 k1)
    have P3 := host0_own HO1.out P2 (fun _ => ⟨_, HQ.out⟩)
    have P4 : W0.heap.size ≤ n3 := by omega
    generalize set10 w1 n3 (host0 x A1 k1) = W3 at P1 P2 P3 ⊢
    clear hn3
    have b3 : Below w.heap.size w W3 := bl_chg (bl_then b0 hb1) P2 (fun i hi => by have := Z0.out; omega)
    have K3 : Hid _ := heap_chg P2 (heap_below hb1 k0.out) (by have := Z0.out; omega)
    have hn3 : w.heap.size < n3 := by have := Z0.out; omega
    have P3' : Hid (OwnHost (fun b => w.heap.size + 1 ≤ b ∧ b ≠ n3) W3 (host0 x A1 k1)) := P3
    obtain ⟨s0, s1, s2, s3, s4, s5, s6, s7, s8, s9, s10, s11, s12, sf⟩ := thirteen (R.out W3 b3).blk
    clear P3
    go_wp2_with fail
    clear s0 s1 s2 s3 s4 s5 s6 s7 s8 s9 s10 s11 s12 sf
    go_loopw [34] (fun i wr => ∃ (k : Nat) (y : LHost), k ≤ x.boxes.length ∧ i = .int .i64 k ∧ wr.heap[w.heap.size]? = some (.cells hzero 37 (0, 0)) ∧ wr.heap[n3]? = some (.cells (hostCells y) 37 (0, 0)) ∧ Hid (OwnHost (fun b => w.heap.size + 1 ≤ b ∧ b ≠ n3) wr y) ∧ Hid (HostAp y) ∧ Hid (y.d = { x.d with boxes := x.d.boxes.take k, fifo := x.d.fifo.take 0, queue := x.d.queue.take 0 }) ∧ Below w.heap.size w wr) (fun i _ => x.boxes.length - (intOf i).toNat)
    case atStart => exact ⟨0, host0 x A1 k1, by omega, rfl, K3.out, P1, P3', host0_ap _ _ _, host0_d _ _ _, b3⟩
    case round =>
      clear K3 P1 P2 P3' b3 HO1 hb1
      obtain ⟨k, y, hk, rfl, hz0, h3, ho, hap, hd, hb⟩ := hrel
      have HZ0 : Hid _ := hz0
      have H3 : Hid _ := h3
      have hyl : y.boxes.length ≤ 32 := by have := congrArg (fun d => d.boxes.length) hd.out; simp [LHost.d] at this; omega
      have z3 := lt_of_heap h3
      clear hz0 h3
      by_cases hlt : k < x.boxes.length
      · have RB := (R.out wr hb).own.hostR.b
        obtain ⟨gb, o, hA, hgb, ⟨e0, e1, e2, e3, e4, e5, e6, e7⟩⟩ := boxAt RB.1 k hlt
        rw [hA]
        obtain ⟨z, hz⟩ : ∃ z, z = x.boxes[k] := ⟨_, rfl⟩
        have HF : Hid (FrameR True wr z.f) := by rw [hz]; exact RB.2 _ (List.getElem_mem hlt)
        have HD : z.f.data.length ≤ 8 := by rw [hz]; exact BD.out.bd _ (List.mem_map_of_mem (List.getElem_mem hlt))
        rw [← hz] at e0 e1 e2 e3 e4 e5 e6 e7
        have HZ : Hid _ := hz
        clear hz hA RB
        go_wp2_with fail
        refine (copyFrame_any _ z.f (by omega) (HF.out.below (by exact (by repeat first | with_reducible exact Below.refl _ _ | with_reducible assumption | with_reducible refine bl_alloc ?_ _ | with_reducible refine bl_drewN ?_ _ | with_reducible refine Below.drew ?_ | (refine bl_set ?_ (by simp <;> omega) _))))).mono ?_; rintro e wC ⟨A', c', rfl, R', G', hbb⟩
        have g1 : Below wr.heap.size wr wC := bl_then (by exact (by repeat first | with_reducible exact Below.refl _ _ | with_reducible assumption | with_reducible refine bl_alloc ?_ _ | with_reducible refine bl_drewN ?_ _ | with_reducible refine Below.drew ?_ | (refine bl_set ?_ (by simp <;> omega) _))) hbb
        have hbC : Below w.heap.size w wC := bl_then hb g1
        have kb := heap_below hbb (heap_new (W := wr) _ _ rfl)
        have kn := heap_below g1 H3.out
        have kz : Hid _ := heap_below g1 HZ0.out
        have OC : Hid (OwnHost (fun b => w.heap.size + 1 ≤ b ∧ b ≠ n3 ∧ b ≠ wr.heap.size) wC y) := (ho.out.mono (fun i hi hl => ⟨hi.1, hi.2, by omega⟩)).below g1
        have I1 : Hid (InA (wr.heap.size + 1) wC.heap.size A') := fun a ha => by have := G' a ha; simp at this; omega
        have R1 : Hid _ := R'
        obtain ⟨d0, d1, d2, d3, d4, d5, d6, d7, df⟩ := eight kb
        obtain ⟨t0, t1, t2, t3, t4, t5, t6, t7, t8, t9, tf⟩ := ten kn
        have zC := lt_of_heap kb
        have zn := lt_of_heap kn
        have zb := hb.size
        have KN : Hid _ := kn
        obtain ⟨v, hv⟩ : ∃ v : LBox, v = ⟨z.state, z.tag, z.stamp, ⟨z.f.ext, z.f.id, z.f.rtr, z.f.dlc, A', c', z.f.data⟩⟩ := ⟨_, rfl⟩
        have HV : Hid _ := hv
        clear hv kb kn hbb R' G' e0 e1 e2 e3 e4 e5 e6 e7 g1 hb
        go_wp2_with (at_builtin; refine wpl_app _ rfl (.tmp 43) (.tmp 45) 33 rfl 0 98 _ 8 72 Try.underlying33 infoBox rfl (by omega) (by omega) _ y.boxes.length _ rfl (by exact own_chg (S := fun b => b = wr.heap.size) OC.out.b.own (by repeat first | with_reducible exact Chg.refl _ _ | with_reducible assumption | with_reducible refine Chg.alloc ?_ _ | with_reducible refine Chg.drewN ?_ _ | with_reducible refine Chg.drew ?_ | (refine Chg.set ?_ (by simp <;> omega) _)) (fun g hg => (OC.out.b.at_ g hg).2.2)) 98 _ 1 1 v.cs rfl (by rw [HV.out]; exact cells_new _ [_, _, _, _, _, _, _, _] _ _ (by simp)) rfl (one_box _) (by omega) (Nat.zero_le _) ?_)
        intro A2 c2 w2 hown2 hgrow hloc
        have hb2 : Below w.heap.size w w2 := bl_grown (by exact (by repeat first | with_reducible exact Below.refl _ _ | with_reducible assumption | with_reducible refine bl_alloc ?_ _ | with_reducible refine bl_drewN ?_ _ | with_reducible refine Below.drew ?_ | (refine bl_set ?_ (by simp <;> omega) _))) hgrow (fun g hg => by have := (OC.out.b.at_ g hg).1; omega)
        have kn2 := heap_grown hgrow (heap_chg (S := fun b => b = wr.heap.size) (by exact (by repeat first | with_reducible exact Chg.refl _ _ | with_reducible assumption | with_reducible refine Chg.alloc ?_ _ | with_reducible refine Chg.drewN ?_ _ | with_reducible refine Chg.drew ?_ | (refine Chg.set ?_ (by simp <;> omega) _))) KN.out (by omega)) (fun e => (OC.out.b.at_ _ e.symm).2.1 rfl)
        have kz2 := heap_grown hgrow (heap_chg (S := fun b => b = wr.heap.size) (by exact (by repeat first | with_reducible exact Chg.refl _ _ | with_reducible assumption | with_reducible refine Chg.alloc ?_ _ | with_reducible refine Chg.drewN ?_ _ | with_reducible refine Chg.drew ?_ | (refine Chg.set ?_ (by simp <;> omega) _))) kz.out (by omega)) (fun e => by have := (OC.out.b.at_ _ e.symm).1; omega)
        have O2 : Hid (OwnHost (fun b => w.heap.size + 1 ≤ b ∧ b ≠ n3 ∧ b ≠ wr.heap.size) w2 { y with boxes := y.boxes ++ [v], bA := A2, bc := c2 }) := OwnHost.snocB (H := by exact OC.out.chg (S := fun b => b = wr.heap.size) (by repeat first | with_reducible exact Chg.refl _ _ | with_reducible assumption | with_reducible refine Chg.alloc ?_ _ | with_reducible refine Chg.drewN ?_ _ | with_reducible refine Chg.drew ?_ | (refine Chg.set ?_ (by simp <;> omega) _)) (fun b hb _ => hb.2.2)) (z := v) (ho := hown2) (hg := hgrow) (hl := hloc) (hn := by simp; omega) (hR := by rw [HV.out]; exact Cells.chg (S := fun b => b = wr.heap.size) R1.out (by repeat first | with_reducible exact Chg.refl _ _ | with_reducible assumption | with_reducible refine Chg.alloc ?_ _ | with_reducible refine Chg.drewN ?_ _ | with_reducible refine Chg.drew ?_ | (refine Chg.set ?_ (by simp <;> omega) _)) (fun a ha => by have := I1.out a ha; omega)) (hI := by rw [HV.out]; exact fun a ha => by have := I1.out a ha; simp; omega)
        have AP2 : Hid (HostAp { y with boxes := y.boxes ++ [v], bA := A2, bc := c2 }) := hap.out.snocB ho.out.dataLt v (by rw [HV.out]; exact fun a ha => by have := I1.out a ha; omega) A2 c2
        have D2 : Hid (LHost.d { y with boxes := y.boxes ++ [v], bA := A2, bc := c2 } = { x.d with boxes := x.d.boxes.take (k + 1), fifo := x.d.fifo.take 0, queue := x.d.queue.take 0 }) := by
          have h1 : LHost.d { y with boxes := y.boxes ++ [v], bA := A2, bc := c2 } = { y.d with boxes := y.d.boxes ++ [v.d] } := by simp [LHost.d]
          have h2 : k < x.d.boxes.length := by simpa [LHost.d] using hlt
          have h4 : x.d.boxes[k] = v.d := by simp only [LHost.d, List.getElem_map]; rw [← HZ.out, HV.out]; rfl
          rw [h1, hd.out]
          show _ = _
          rw [List.take_succ_eq_append_getElem h2, h4]
        have KN2 : Hid _ := kn2
        obtain ⟨u0, u1, u2, u3, u4, u5, u6, u7, u8, u9, uf⟩ := ten kn2
        have zn2 := lt_of_heap kn2
        have KZ2 : Hid _ := kz2
        clear kn2 kz2 hgrow hloc hown2 d0 d1 d2 d3 d4 d5 d6 d7 df t0 t1 t2 t3 t4 t5 t6 t7 t8 t9 tf
        go_wp2_with fail
        go_roundw
        case rel =>
          refine ⟨k + 1, { y with boxes := y.boxes ++ [v], bA := A2, bc := c2 }, by omega, by go_num, heap_far KZ2.out (by simp; omega), ?_, (O2.out.chg (S := fun b => b = n3) (by repeat first | with_reducible exact Chg.refl _ _ | with_reducible assumption | with_reducible refine Chg.alloc ?_ _ | with_reducible refine Chg.drewN ?_ _ | with_reducible refine Chg.drew ?_ | (refine Chg.set ?_ (by simp <;> omega) _)) (fun b hb _ => hb.2.1)).mono (fun b hb _ => ⟨hb.1, hb.2.1⟩), AP2.out, D2.out, (by repeat first | with_reducible exact Below.refl _ _ | with_reducible assumption | with_reducible refine bl_alloc ?_ _ | with_reducible refine bl_drewN ?_ _ | with_reducible refine Below.drew ?_ | (refine bl_set ?_ (by simp <;> omega) _))⟩
          rw [heap_set KN2.out rfl]; simp [hostCells]
        case measure => simp [intOf]; omega
      · have hke : k = x.boxes.length := by omega
        have D1 : Hid (y.d = { x.d with boxes := x.d.boxes.take x.boxes.length, fifo := x.d.fifo.take 0, queue := x.d.queue.take 0 }) := by have := hd.out; rw [hke] at this; exact this
        clear hke
        obtain ⟨s0, s1, s2, s3, s4, s5, s6, s7, s8, s9, s10, s11, s12, sf⟩ := thirteen (R.out wr hb).blk
        go_wp2_with fail
        clear s0 s1 s2 s3 s4 s5 s6 s7 s8 s9 s10 s11 s12 sf
        go_loopw [55] (fun i wr => ∃ (k : Nat) (y : LHost), k ≤ x.fifo.length ∧ i = .int .i64 k ∧ wr.heap[w.heap.size]? = some (.cells hzero 37 (0, 0)) ∧ wr.heap[n3]? = some (.cells (hostCells y) 37 (0, 0)) ∧ Hid (OwnHost (fun b => w.heap.size + 1 ≤ b ∧ b ≠ n3) wr y) ∧ Hid (HostAp y) ∧ Hid (y.d = { x.d with boxes := x.d.boxes.take x.boxes.length, fifo := x.d.fifo.take k, queue := x.d.queue.take 0 }) ∧ Below w.heap.size w wr) (fun i _ => x.fifo.length - (intOf i).toNat)
        case atStart => exact ⟨0, y, by omega, rfl, HZ0.out, H3.out, ho.out, hap.out, D1.out, hb⟩
        case round =>
          clear HZ0 H3 ho hap hd D1 hb hyl z3
          obtain ⟨k, y, hk, rfl, hz0, h3, ho, hap, hd, hb⟩ := hrel
          have HZ0 : Hid _ := hz0
          have H3 : Hid _ := h3
          have hyl : y.fifo.length ≤ 32 := by have := congrArg (fun d => d.fifo.length) hd.out; simp [LHost.d] at this; omega
          have z3 := lt_of_heap h3
          clear hz0 h3
          by_cases hlt : k < x.fifo.length
          · have RB := (R.out wr hb).own.hostR.q
            obtain ⟨gb, o, hA, hgb, ⟨e0, e1, e2, e3, e4⟩⟩ := frameAt RB.1 k hlt
            rw [hA]
            obtain ⟨z, hz⟩ : ∃ z, z = x.fifo[k] := ⟨_, rfl⟩
            have HF : Hid (FrameR True wr z) := by rw [hz]; exact RB.2 _ (List.getElem_mem hlt)
            have HD : z.data.length ≤ 8 := by rw [hz]; exact BD.out.qd _ (List.mem_map_of_mem (List.getElem_mem hlt))
            rw [← hz] at e0 e1 e2 e3 e4
            have HZ : Hid _ := hz
            clear hz hA RB
            go_wp2_with fail
            obtain ⟨WB, eB⟩ : ∃ W, W = wr.alloc (.cells #[.bool z.ext, .int .u32 z.id, .bool z.rtr, .int .i64 z.dlc, .slice z.A z.data.length z.cap] 49) := ⟨_, rfl⟩
            rw [← eB]
            have bB : Below wr.heap.size wr WB := by rw [eB]; exact (by repeat first | with_reducible exact Below.refl _ _ | with_reducible assumption | with_reducible refine bl_alloc ?_ _ | with_reducible refine bl_drewN ?_ _ | with_reducible refine Below.drew ?_ | (refine bl_set ?_ (by simp <;> omega) _))
            have zB : WB.heap.size = wr.heap.size + 1 := by rw [eB]; simp
            have kB : WB.heap[wr.heap.size]? = some (.cells #[.bool z.ext, .int .u32 z.id, .bool z.rtr, .int .i64 z.dlc, .slice z.A z.data.length z.cap] 49 (0, 0)) := by rw [eB]; exact heap_new _ _ rfl
            clear eB e0 e1 e2 e3 e4
            obtain ⟨d0, d1, d2, d3, d4, df⟩ := five kB
            have kn := heap_below bB H3.out
            have OB : Hid (OwnHost (fun b => w.heap.size + 1 ≤ b ∧ b ≠ n3 ∧ b ≠ wr.heap.size) WB y) := (ho.out.mono (fun i hi hl => ⟨hi.1, hi.2, by omega⟩)).below bB
            have HFB : Hid _ := HF.out.below bB
            have KZB : Hid _ := heap_below bB HZ0.out
            have hbB : Below w.heap.size w WB := bl_then hb bB
            have zb := hb.size
            have KNB : Hid _ := kn
            obtain ⟨t0, t1, t2, t3, t4, t5, t6, t7, t8, t9, tf⟩ := ten kn
            have ZB : Hid _ := zB
            clear kn kB zB
            go_region_law
              (first
                | (refine step_app _ rfl (.tmp 60) (.tmp 63) 34 rfl 0 49 _ 5 48 Try.underlying34 infoFrame rfl (by omega) (by omega) _ y.fifo.length _ rfl (by exact own_chg (S := fun _ => False) OC.out.q.own (by repeat first | with_reducible exact Chg.refl _ _ | with_reducible assumption | with_reducible refine Chg.alloc ?_ _ | with_reducible refine Chg.drewN ?_ _ | with_reducible refine Chg.drew ?_ | (refine Chg.set ?_ (by simp <;> omega) _)) (fun _ _ h => h)) 49 _ 1 1 v.cs rfl (by rw [HV.out]; exact cells_new _ [_, _, _, _, _] _ _ (by simp)) rfl (one_frame _) (by omega) (Nat.zero_le _) ?_
                   intro A2 c2 w2 hown2 hgrow hloc
                   have hch2 : Chg (fun b => w.heap.size + 1 ≤ b ∧ b ≠ wr.heap.size) WB w2 := Chg.trans (by exact (by repeat first | with_reducible exact Chg.refl _ _ | with_reducible assumption | with_reducible refine Chg.alloc ?_ _ | with_reducible refine Chg.drewN ?_ _ | with_reducible refine Chg.drew ?_ | (refine Chg.set ?_ (by simp <;> omega) _))) (Chg.grown hgrow (fun g hg _ => ⟨(OC.out.q.at_ g hg).1, (OC.out.q.at_ g hg).2.2⟩)) (fun _ _ h => h)
                   have kn2 := heap_grown hgrow (heap_old _ KNC.out) (fun e => (OC.out.q.at_ _ e.symm).2.1 rfl)
                   have KZ2 : Hid _ := heap_grown hgrow (heap_old _ KZC.out) (fun e => by have := (OC.out.q.at_ _ e.symm).1; omega)
                   have O2 : Hid (OwnHost (fun b => w.heap.size + 1 ≤ b ∧ b ≠ n3 ∧ b ≠ wr.heap.size) w2 { y with fifo := y.fifo ++ [v], qA := A2, qc := c2 }) := OwnHost.snocF (H := by exact OC.out.chg (S := fun _ => False) (by repeat first | with_reducible exact Chg.refl _ _ | with_reducible assumption | with_reducible refine Chg.alloc ?_ _ | with_reducible refine Chg.drewN ?_ _ | with_reducible refine Chg.drew ?_ | (refine Chg.set ?_ (by simp <;> omega) _)) (fun _ _ _ h => h)) (z := v) (ho := hown2) (hg := hgrow) (hl := hloc) (hn := by have := zC.out; have := ZB.out; simp; omega) (hR := by rw [HV.out]; exact Cells.chg (S := fun _ => False) R1.out (by repeat first | with_reducible exact Chg.refl _ _ | with_reducible assumption | with_reducible refine Chg.alloc ?_ _ | with_reducible refine Chg.drewN ?_ _ | with_reducible refine Chg.drew ?_ | (refine Chg.set ?_ (by simp <;> omega) _)) (fun _ _ h => h)) (hI := by rw [HV.out]; exact fun a ha => by have := I1.out a ha; simp; omega)
                   obtain ⟨u0, u1, u2, u3, u4, u5, u6, u7, u8, u9, uf⟩ := ten kn2
                   have zn2 := lt_of_heap kn2
                   have KN2 : Hid _ := kn2
                   clear kn2 hgrow hloc hown2)
                | (go_simp
                   go_at_call 82
                   refine (copyFrame_any _ z (by omega) (FrameR.below HFB.out (by exact (by repeat first | with_reducible exact Below.refl _ _ | with_reducible assumption | with_reducible refine bl_alloc ?_ _ | with_reducible refine bl_drewN ?_ _ | with_reducible refine Below.drew ?_ | (refine bl_set ?_ (by simp <;> omega) _))))).mono ?_
                   rintro e wC ⟨A', c', rfl, R', G', hbb⟩
                   have g1 : Below WB.heap.size WB wC := bl_then (by exact (by repeat first | with_reducible exact Below.refl _ _ | with_reducible assumption | with_reducible refine bl_alloc ?_ _ | with_reducible refine bl_drewN ?_ _ | with_reducible refine Below.drew ?_ | (refine bl_set ?_ (by simp <;> omega) _))) hbb
                   have hch1 : Chg (fun b => w.heap.size + 1 ≤ b ∧ b ≠ wr.heap.size) WB wC := Chg.of_below g1 _
                   have knC := heap_below g1 KNB.out
                   obtain ⟨p0, p1, p2, p3, p4, p5, p6, p7, p8, p9, pf⟩ := ten knC
                   have znC := lt_of_heap knC
                   have KNC : Hid _ := knC
                   have zC : Hid _ := g1.size
                   have KZC : Hid _ := heap_below g1 KZB.out
                   have OC : Hid _ := OB.out.below g1
                   have I1 : Hid (InA (wr.heap.size + 1) wC.heap.size A') := fun a ha => by have := G' a ha; have := ZB.out; simp at *; omega
                   have R1 : Hid _ := R'
                   obtain ⟨v, hv⟩ : ∃ v : LFrame, v = ⟨z.ext, z.id, z.rtr, z.dlc, A', c', z.data⟩ := ⟨_, rfl⟩
                   have HV : Hid _ := hv
                   clear hv R' G' hbb knC
                   go_wp2_with fail))
            all_goals (
              clear d0 d1 d2 d3 d4 df
              have hb2 : Below w.heap.size w w2 := bl_chg hbB hch2 (fun b hb => by omega)
              have AP2 : Hid (HostAp { y with fifo := y.fifo ++ [v], qA := A2, qc := c2 }) := hap.out.snocF ho.out.dataLt v (by rw [HV.out]; exact fun a ha => by have := I1.out a ha; omega) A2 c2
              have D2 : Hid (LHost.d { y with fifo := y.fifo ++ [v], qA := A2, qc := c2 } = { x.d with boxes := x.d.boxes.take x.boxes.length, fifo := x.d.fifo.take (k + 1), queue := x.d.queue.take 0 }) := by
                have h1 : LHost.d { y with fifo := y.fifo ++ [v], qA := A2, qc := c2 } = { y.d with fifo := y.d.fifo ++ [v.d] } := by simp [LHost.d]
                have h2 : k < x.d.fifo.length := by simpa [LHost.d] using hlt
                have h4 : x.d.fifo[k] = v.d := by simp only [LHost.d, List.getElem_map]; rw [← HZ.out, HV.out]; rfl
                rw [h1, hd.out]
                show _ = _
                rw [List.take_succ_eq_append_getElem h2, h4]
              go_wp2_with fail
              go_roundw
              case rel =>
                refine ⟨k + 1, { y with fifo := y.fifo ++ [v], qA := A2, qc := c2 }, by omega, by go_num, heap_far KZ2.out (by simp; omega), ?_, (O2.out.chg (S := fun b => b = n3) (by repeat first | with_reducible exact Chg.refl _ _ | with_reducible assumption | with_reducible refine Chg.alloc ?_ _ | with_reducible refine Chg.drewN ?_ _ | with_reducible refine Chg.drew ?_ | (refine Chg.set ?_ (by simp <;> omega) _)) (fun b hb _ => hb.2.1)).mono (fun b hb _ => ⟨hb.1, hb.2.1⟩), AP2.out, D2.out, (by repeat first | with_reducible exact Below.refl _ _ | with_reducible assumption | with_reducible refine bl_alloc ?_ _ | with_reducible refine bl_drewN ?_ _ | with_reducible refine Below.drew ?_ | (refine bl_set ?_ (by simp <;> omega) _))⟩
                rw [heap_set KN2.out rfl]; simp [hostCells]
              case measure => simp [intOf]; omega)
          · have hke : k = x.fifo.length := by omega
            have D1 : Hid (y.d = { x.d with boxes := x.d.boxes.take x.boxes.length, fifo := x.d.fifo.take x.fifo.length, queue := x.d.queue.take 0 }) := by have := hd.out; rw [hke] at this; exact this
            clear hke
            obtain ⟨s0, s1, s2, s3, s4, s5, s6, s7, s8, s9, s10, s11, s12, sf⟩ := thirteen (R.out wr hb).blk
            go_wp2_with fail
            clear s0 s1 s2 s3 s4 s5 s6 s7 s8 s9 s10 s11 s12 sf
            go_loopw [73] (fun i wr => ∃ (k : Nat) (y : LHost), k ≤ x.queue.length ∧ i = .int .i64 k ∧ wr.heap[w.heap.size]? = some (.cells hzero 37 (0, 0)) ∧ wr.heap[n3]? = some (.cells (hostCells y) 37 (0, 0)) ∧ Hid (OwnHost (fun b => w.heap.size + 1 ≤ b ∧ b ≠ n3) wr y) ∧ Hid (HostAp y) ∧ Hid (y.d = { x.d with boxes := x.d.boxes.take x.boxes.length, fifo := x.d.fifo.take x.fifo.length, queue := x.d.queue.take k }) ∧ Below w.heap.size w wr) (fun i _ => x.queue.length - (intOf i).toNat)
            case atStart => exact ⟨0, y, by omega, rfl, HZ0.out, H3.out, ho.out, hap.out, D1.out, hb⟩
            case round =>
              clear HZ0 H3 ho hap hd D1 hb hyl z3
              obtain ⟨k, y, hk, rfl, hz0, h3, ho, hap, hd, hb⟩ := hrel
              have HZ0 : Hid _ := hz0
              have H3 : Hid _ := h3
              have hyl : y.queue.length ≤ 32 := by have := congrArg (fun d => d.queue.length) hd.out; simp [LHost.d] at this; omega
              have z3 := lt_of_heap h3
              clear hz0 h3
              by_cases hlt : k < x.queue.length
              · have RB := (R.out wr hb).own.hostR.e
                obtain ⟨gb, o, hA, hgb, ⟨e0, e1, e2, e3, e4, e5, e6, e7⟩⟩ := eventAt RB.1 k hlt
                rw [hA]
                obtain ⟨z, hz⟩ : ∃ z, z = x.queue[k] := ⟨_, rfl⟩
                have HF : Hid (FrameR True wr z.f) := by rw [hz]; exact RB.2 _ (List.getElem_mem hlt)
                have HD : z.f.data.length ≤ 8 := by rw [hz]; exact BD.out.ed _ (List.mem_map_of_mem (List.getElem_mem hlt))
                rw [← hz] at e0 e1 e2 e3 e4 e5 e6 e7
                have HZ : Hid _ := hz
                clear hz hA RB
                go_wp2_with fail
                refine (copyFrame_any _ z.f (by omega) (HF.out.below (by exact (by repeat first | with_reducible exact Below.refl _ _ | with_reducible assumption | with_reducible refine bl_alloc ?_ _ | with_reducible refine bl_drewN ?_ _ | with_reducible refine Below.drew ?_ | (refine bl_set ?_ (by simp <;> omega) _))))).mono ?_; rintro e wC ⟨A', c', rfl, R', G', hbb⟩
                have g1 : Below wr.heap.size wr wC := bl_then (by exact (by repeat first | with_reducible exact Below.refl _ _ | with_reducible assumption | with_reducible refine bl_alloc ?_ _ | with_reducible refine bl_drewN ?_ _ | with_reducible refine Below.drew ?_ | (refine bl_set ?_ (by simp <;> omega) _))) hbb
                have hbC : Below w.heap.size w wC := bl_then hb g1
                have kb := heap_below hbb (heap_new (W := wr) _ _ rfl)
                have kn := heap_below g1 H3.out
                have kz : Hid _ := heap_below g1 HZ0.out
                have OC : Hid (OwnHost (fun b => w.heap.size + 1 ≤ b ∧ b ≠ n3 ∧ b ≠ wr.heap.size) wC y) := (ho.out.mono (fun i hi hl => ⟨hi.1, hi.2, by omega⟩)).below g1
                have I1 : Hid (InA (wr.heap.size + 1) wC.heap.size A') := fun a ha => by have := G' a ha; simp at this; omega
                have R1 : Hid _ := R'
                obtain ⟨d0, d1, d2, d3, d4, d5, d6, d7, df⟩ := eight kb
                obtain ⟨t0, t1, t2, t3, t4, t5, t6, t7, t8, t9, tf⟩ := ten kn
                have zC := lt_of_heap kb
                have zn := lt_of_heap kn
                have zb := hb.size
                have KN : Hid _ := kn
                obtain ⟨v, hv⟩ : ∃ v : LEvent, v = ⟨z.kind, z.a, z.b, ⟨z.f.ext, z.f.id, z.f.rtr, z.f.dlc, A', c', z.f.data⟩⟩ := ⟨_, rfl⟩
                have HV : Hid _ := hv
                clear hv kb kn hbb R' G' e0 e1 e2 e3 e4 e5 e6 e7 g1 hb
                go_wp2_with (at_builtin; refine wpl_app _ rfl (.tmp 82) (.tmp 84) 35 rfl 0 95 _ 8 72 Try.underlying35 infoEvent rfl (by omega) (by omega) _ y.queue.length _ rfl (by exact own_chg (S := fun b => b = wr.heap.size) OC.out.e.own (by repeat first | with_reducible exact Chg.refl _ _ | with_reducible assumption | with_reducible refine Chg.alloc ?_ _ | with_reducible refine Chg.drewN ?_ _ | with_reducible refine Chg.drew ?_ | (refine Chg.set ?_ (by simp <;> omega) _)) (fun g hg => (OC.out.e.at_ g hg).2.2)) 95 _ 1 1 v.cs rfl (by rw [HV.out]; exact cells_new _ [_, _, _, _, _, _, _, _] _ _ (by simp)) rfl (one_event _) (by omega) (Nat.zero_le _) ?_)
                intro A2 c2 w2 hown2 hgrow hloc
                have hb2 : Below w.heap.size w w2 := bl_grown (by exact (by repeat first | with_reducible exact Below.refl _ _ | with_reducible assumption | with_reducible refine bl_alloc ?_ _ | with_reducible refine bl_drewN ?_ _ | with_reducible refine Below.drew ?_ | (refine bl_set ?_ (by simp <;> omega) _))) hgrow (fun g hg => by have := (OC.out.e.at_ g hg).1; omega)
                have kn2 := heap_grown hgrow (heap_chg (S := fun b => b = wr.heap.size) (by exact (by repeat first | with_reducible exact Chg.refl _ _ | with_reducible assumption | with_reducible refine Chg.alloc ?_ _ | with_reducible refine Chg.drewN ?_ _ | with_reducible refine Chg.drew ?_ | (refine Chg.set ?_ (by simp <;> omega) _))) KN.out (by omega)) (fun e => (OC.out.e.at_ _ e.symm).2.1 rfl)
                have kz2 := heap_grown hgrow (heap_chg (S := fun b => b = wr.heap.size) (by exact (by repeat first | with_reducible exact Chg.refl _ _ | with_reducible assumption | with_reducible refine Chg.alloc ?_ _ | with_reducible refine Chg.drewN ?_ _ | with_reducible refine Chg.drew ?_ | (refine Chg.set ?_ (by simp <;> omega) _))) kz.out (by omega)) (fun e => by have := (OC.out.e.at_ _ e.symm).1; omega)
                have O2 : Hid (OwnHost (fun b => w.heap.size + 1 ≤ b ∧ b ≠ n3 ∧ b ≠ wr.heap.size) w2 { y with queue := y.queue ++ [v], eA := A2, ec := c2 }) := OwnHost.snocE (H := by exact OC.out.chg (S := fun b => b = wr.heap.size) (by repeat first | with_reducible exact Chg.refl _ _ | with_reducible assumption | with_reducible refine Chg.alloc ?_ _ | with_reducible refine Chg.drewN ?_ _ | with_reducible refine Chg.drew ?_ | (refine Chg.set ?_ (by simp <;> omega) _)) (fun b hb _ => hb.2.2)) (z := v) (ho := hown2) (hg := hgrow) (hl := hloc) (hn := by simp; omega) (hR := by rw [HV.out]; exact Cells.chg (S := fun b => b = wr.heap.size) R1.out (by repeat first | with_reducible exact Chg.refl _ _ | with_reducible assumption | with_reducible refine Chg.alloc ?_ _ | with_reducible refine Chg.drewN ?_ _ | with_reducible refine Chg.drew ?_ | (refine Chg.set ?_ (by simp <;> omega) _)) (fun a ha => by have := I1.out a ha; omega)) (hI := by rw [HV.out]; exact fun a ha => by have := I1.out a ha; simp; omega)
                have AP2 : Hid (HostAp { y with queue := y.queue ++ [v], eA := A2, ec := c2 }) := hap.out.snocE ho.out.dataLt v (by rw [HV.out]; exact fun a ha => by have := I1.out a ha; omega) A2 c2
                have D2 : Hid (LHost.d { y with queue := y.queue ++ [v], eA := A2, ec := c2 } = { x.d with boxes := x.d.boxes.take x.boxes.length, fifo := x.d.fifo.take x.fifo.length, queue := x.d.queue.take (k + 1) }) := by
                  have h1 : LHost.d { y with queue := y.queue ++ [v], eA := A2, ec := c2 } = { y.d with queue := y.d.queue ++ [v.d] } := by simp [LHost.d]
                  have h2 : k < x.d.queue.length := by simpa [LHost.d] using hlt
                  have h4 : x.d.queue[k] = v.d := by simp only [LHost.d, List.getElem_map]; rw [← HZ.out, HV.out]; rfl
                  rw [h1, hd.out]
                  show _ = _
                  rw [List.take_succ_eq_append_getElem h2, h4]
                have KN2 : Hid _ := kn2
                obtain ⟨u0, u1, u2, u3, u4, u5, u6, u7, u8, u9, uf⟩ := ten kn2
                have zn2 := lt_of_heap kn2
                have KZ2 : Hid _ := kz2
                clear kn2 kz2 hgrow hloc hown2 d0 d1 d2 d3 d4 d5 d6 d7 df t0 t1 t2 t3 t4 t5 t6 t7 t8 t9 tf
                go_wp2_with fail
                go_roundw
                case rel =>
                  refine ⟨k + 1, { y with queue := y.queue ++ [v], eA := A2, ec := c2 }, by omega, by go_num, heap_far KZ2.out (by simp; omega), ?_, (O2.out.chg (S := fun b => b = n3) (by repeat first | with_reducible exact Chg.refl _ _ | with_reducible assumption | with_reducible refine Chg.alloc ?_ _ | with_reducible refine Chg.drewN ?_ _ | with_reducible refine Chg.drew ?_ | (refine Chg.set ?_ (by simp <;> omega) _)) (fun b hb _ => hb.2.1)).mono (fun b hb _ => ⟨hb.1, hb.2.1⟩), AP2.out, D2.out, (by repeat first | with_reducible exact Below.refl _ _ | with_reducible assumption | with_reducible refine bl_alloc ?_ _ | with_reducible refine bl_drewN ?_ _ | with_reducible refine Below.drew ?_ | (refine bl_set ?_ (by simp <;> omega) _))⟩
                  rw [heap_set KN2.out rfl]; simp [hostCells]
                case measure => simp [intOf]; omega
              · have hke : k = x.queue.length := by omega
                have D1 : Hid (y.d = { x.d with boxes := x.d.boxes.take x.boxes.length, fifo := x.d.fifo.take x.fifo.length, queue := x.d.queue.take x.queue.length }) := by have := hd.out; rw [hke] at this; exact this
                clear hke
                obtain ⟨c0, c1, c2, c3, c4, c5, c6, c7, c8, c9, cf⟩ := ten H3.out
                obtain ⟨f0, f1, f2, f3, f4, f5, f6, f7, f8, f9, ff⟩ := ten HZ0.out
                have zb := hb.size
                go_wp2_with fail
                refine bodyPost_ret (v := hv y) (by simp [results, Try.results36, go_sem, hv, *]) rfl (Ret.mk y rfl ⟨?_, ?_, hap.out, (by repeat first | with_reducible exact Below.refl _ _ | with_reducible assumption | with_reducible refine bl_alloc ?_ _ | with_reducible refine bl_drewN ?_ _ | with_reducible refine Below.drew ?_ | (refine bl_set ?_ (by simp <;> omega) _))⟩)
                · rw [D1.out, List.take_of_length_le (by simp [LHost.d]), List.take_of_length_le (by simp [LHost.d]), List.take_of_length_le (by simp [LHost.d])]
                · exact (ho.out.chg (S := fun b => b = w.heap.size) (by repeat first | with_reducible exact Chg.refl _ _ | with_reducible assumption | with_reducible refine Chg.alloc ?_ _ | with_reducible refine Chg.drewN ?_ _ | with_reducible refine Chg.drew ?_ | (refine Chg.set ?_ (by simp <;> omega) _)) (fun b hb _ => by omega)).mono (fun b hb _ => by omega)
  · obtain ⟨n3, hn3⟩ : ∃ n3, n3 = W0.heap.size := ⟨_, rfl⟩
    change Exit.then _ _ _ _ (set10 w1 W0.heap.size (host0 x A1 k1))
    rw [← hn3] at HQ ⊢
    have P1 := set10_heap (host0 x A1 k1) HQ.out
    have P2 := set10_chg w1 n3 (host0 x A1 k1)
    have P3 := host0_own HO1.out P2 (fun _ => ⟨_, HQ.out⟩)
    have P4 : W0.heap.size ≤ n3 := by omega
    generalize set10 w1 n3 (host0 x A1 k1) = W3 at P1 P2 P3 ⊢
    clear hn3
    have b3 : Below w.heap.size w W3 := bl_chg (bl_then b0 hb1) P2 (fun i hi => by have := Z0.out; omega)
    have K3 : Hid _ := heap_chg P2 (heap_below hb1 k0.out) (by have := Z0.out; omega)
    have hn3 : w.heap.size < n3 := by have := Z0.out; omega
    have P3' : Hid (OwnHost (fun b => w.heap.size + 1 ≤ b ∧ b ≠ n3) W3 (host0 x A1 k1)) := P3
    obtain ⟨s0, s1, s2, s3, s4, s5, s6, s7, s8, s9, s10, s11, s12, sf⟩ := thirteen (R.out W3 b3).blk
    clear P3
    go_wp2_with fail
    clear s0 s1 s2 s3 s4 s5 s6 s7 s8 s9 s10 s11 s12 sf
    go_loopw [34] (fun i wr => ∃ (k : Nat) (y : LHost), k ≤ x.boxes.length ∧ i = .int .i64 k ∧ wr.heap[w.heap.size]? = some (.cells hzero 37 (0, 0)) ∧ wr.heap[n3]? = some (.cells (hostCells y) 37 (0, 0)) ∧ Hid (OwnHost (fun b => w.heap.size + 1 ≤ b ∧ b ≠ n3) wr y) ∧ Hid (HostAp y) ∧ Hid (y.d = { x.d with boxes := x.d.boxes.take k, fifo := x.d.fifo.take 0, queue := x.d.queue.take 0 }) ∧ Below w.heap.size w wr) (fun i _ => x.boxes.length - (intOf i).toNat)
    case atStart => exact ⟨0, host0 x A1 k1, by omega, rfl, K3.out, P1, P3', host0_ap _ _ _, host0_d _ _ _, b3⟩
    case round =>
      clear K3 P1 P2 P3' b3 HO1 hb1
      obtain ⟨k, y, hk, rfl, hz0, h3, ho, hap, hd, hb⟩ := hrel
      have HZ0 : Hid _ := hz0
      have H3 : Hid _ := h3
      have hyl : y.boxes.length ≤ 32 := by have := congrArg (fun d => d.boxes.length) hd.out; simp [LHost.d] at this; omega
      have z3 := lt_of_heap h3
      clear hz0 h3
      by_cases hlt : k < x.boxes.length
      · have RB := (R.out wr hb).own.hostR.b
        obtain ⟨gb, o, hA, hgb, ⟨e0, e1, e2, e3, e4, e5, e6, e7⟩⟩ := boxAt RB.1 k hlt
        rw [hA]
        obtain ⟨z, hz⟩ : ∃ z, z = x.boxes[k] := ⟨_, rfl⟩
        have HF : Hid (FrameR True wr z.f) := by rw [hz]; exact RB.2 _ (List.getElem_mem hlt)
        have HD : z.f.data.length ≤ 8 := by rw [hz]; exact BD.out.bd _ (List.mem_map_of_mem (List.getElem_mem hlt))
        rw [← hz] at e0 e1 e2 e3 e4 e5 e6 e7
        have HZ : Hid _ := hz
        clear hz hA RB
        go_wp2_with fail
        refine (copyFrame_any _ z.f (by omega) (HF.out.below (by exact (by repeat first | with_reducible exact Below.refl _ _ | with_reducible assumption | with_reducible refine bl_alloc ?_ _ | with_reducible refine bl_drewN ?_ _ | with_reducible refine Below.drew ?_ | (refine bl_set ?_ (by simp <;> omega) _))))).mono ?_; rintro e wC ⟨A', c', rfl, R', G', hbb⟩
        have g1 : Below wr.heap.size wr wC := bl_then (by exact (by repeat first | with_reducible exact Below.refl _ _ | with_reducible assumption | with_reducible refine bl_alloc ?_ _ | with_reducible refine bl_drewN ?_ _ | with_reducible refine Below.drew ?_ | (refine bl_set ?_ (by simp <;> omega) _))) hbb
        have hbC : Below w.heap.size w wC := bl_then hb g1
        have kb := heap_below hbb (heap_new (W := wr) _ _ rfl)
        have kn := heap_below g1 H3.out
        have kz : Hid _ := heap_below g1 HZ0.out
        have OC : Hid (OwnHost (fun b => w.heap.size + 1 ≤ b ∧ b ≠ n3 ∧ b ≠ wr.heap.size) wC y) := (ho.out.mono (fun i hi hl => ⟨hi.1, hi.2, by omega⟩)).below g1
        have I1 : Hid (InA (wr.heap.size + 1) wC.heap.size A') := fun a ha => by have := G' a ha; simp at this; omega
        have R1 : Hid _ := R'
        obtain ⟨d0, d1, d2, d3, d4, d5, d6, d7, df⟩ := eight kb
        obtain ⟨t0, t1, t2, t3, t4, t5, t6, t7, t8, t9, tf⟩ := ten kn
        have zC := lt_of_heap kb
        have zn := lt_of_heap kn
        have zb := hb.size
        have KN : Hid _ := kn
        obtain ⟨v, hv⟩ : ∃ v : LBox, v = ⟨z.state, z.tag, z.stamp, ⟨z.f.ext, z.f.id, z.f.rtr, z.f.dlc, A', c', z.f.data⟩⟩ := ⟨_, rfl⟩
        have HV : Hid _ := hv
        clear hv kb kn hbb R' G' e0 e1 e2 e3 e4 e5 e6 e7 g1 hb
        go_wp2_with (at_builtin; refine wpl_app _ rfl (.tmp 43) (.tmp 45) 33 rfl 0 98 _ 8 72 Try.underlying33 infoBox rfl (by omega) (by omega) _ y.boxes.length _ rfl (by exact own_chg (S := fun b => b = wr.heap.size) OC.out.b.own (by repeat first | with_reducible exact Chg.refl _ _ | with_reducible assumption | with_reducible refine Chg.alloc ?_ _ | with_reducible refine Chg.drewN ?_ _ | with_reducible refine Chg.drew ?_ | (refine Chg.set ?_ (by simp <;> omega) _)) (fun g hg => (OC.out.b.at_ g hg).2.2)) 98 _ 1 1 v.cs rfl (by rw [HV.out]; exact cells_new _ [_, _, _, _, _, _, _, _] _ _ (by simp)) rfl (one_box _) (by omega) (Nat.zero_le _) ?_)
        intro A2 c2 w2 hown2 hgrow hloc
        have hb2 : Below w.heap.size w w2 := bl_grown (by exact (by repeat first | with_reducible exact Below.refl _ _ | with_reducible assumption | with_reducible refine bl_alloc ?_ _ | with_reducible refine bl_drewN ?_ _ | with_reducible refine Below.drew ?_ | (refine bl_set ?_ (by simp <;> omega) _))) hgrow (fun g hg => by have := (OC.out.b.at_ g hg).1; omega)
        have kn2 := heap_grown hgrow (heap_chg (S := fun b => b = wr.heap.size) (by exact (by repeat first | with_reducible exact Chg.refl _ _ | with_reducible assumption | with_reducible refine Chg.alloc ?_ _ | with_reducible refine Chg.drewN ?_ _ | with_reducible refine Chg.drew ?_ | (refine Chg.set ?_ (by simp <;> omega) _))) KN.out (by omega)) (fun e => (OC.out.b.at_ _ e.symm).2.1 rfl)
        have kz2 := heap_grown hgrow (heap_chg (S := fun b => b = wr.heap.size) (by exact (by repeat first | with_reducible exact Chg.refl _ _ | with_reducible assumption | with_reducible refine Chg.alloc ?_ _ | with_reducible refine Chg.drewN ?_ _ | with_reducible refine Chg.drew ?_ | (refine Chg.set ?_ (by simp <;> omega) _))) kz.out (by omega)) (fun e => by have := (OC.out.b.at_ _ e.symm).1; omega)
        have O2 : Hid (OwnHost (fun b => w.heap.size + 1 ≤ b ∧ b ≠ n3 ∧ b ≠ wr.heap.size) w2 { y with boxes := y.boxes ++ [v], bA := A2, bc := c2 }) := OwnHost.snocB (H := by exact OC.out.chg (S := fun b => b = wr.heap.size) (by repeat first | with_reducible exact Chg.refl _ _ | with_reducible assumption | with_reducible refine Chg.alloc ?_ _ | with_reducible refine Chg.drewN ?_ _ | with_reducible refine Chg.drew ?_ | (refine Chg.set ?_ (by simp <;> omega) _)) (fun b hb _ => hb.2.2)) (z := v) (ho := hown2) (hg := hgrow) (hl := hloc) (hn := by simp; omega) (hR := by rw [HV.out]; exact Cells.chg (S := fun b => b = wr.heap.size) R1.out (by repeat first | with_reducible exact Chg.refl _ _ | with_reducible assumption | with_reducible refine Chg.alloc ?_ _ | with_reducible refine Chg.drewN ?_ _ | with_reducible refine Chg.drew ?_ | (refine Chg.set ?_ (by simp <;> omega) _)) (fun a ha => by have := I1.out a ha; omega)) (hI := by rw [HV.out]; exact fun a ha => by have := I1.out a ha; simp; omega)
        have AP2 : Hid (HostAp { y with boxes := y.boxes ++ [v], bA := A2, bc := c2 }) := hap.out.snocB ho.out.dataLt v (by rw [HV.out]; exact fun a ha => by have := I1.out a ha; omega) A2 c2
        have D2 : Hid (LHost.d { y with boxes := y.boxes ++ [v], bA := A2, bc := c2 } = { x.d with boxes := x.d.boxes.take (k + 1), fifo := x.d.fifo.take 0, queue := x.d.queue.take 0 }) := by
          have h1 : LHost.d { y with boxes := y.boxes ++ [v], bA := A2, bc := c2 } = { y.d with boxes := y.d.boxes ++ [v.d] } := by simp [LHost.d]
          have h2 : k < x.d.boxes.length := by simpa [LHost.d] using hlt
          have h4 : x.d.boxes[k] = v.d := by simp only [LHost.d, List.getElem_map]; rw [← HZ.out, HV.out]; rfl
          rw [h1, hd.out]
          show _ = _
          rw [List.take_succ_eq_append_getElem h2, h4]
        have KN2 : Hid _ := kn2
        obtain ⟨u0, u1, u2, u3, u4, u5, u6, u7, u8, u9, uf⟩ := ten kn2
        have zn2 := lt_of_heap kn2
        have KZ2 : Hid _ := kz2
        clear kn2 kz2 hgrow hloc hown2 d0 d1 d2 d3 d4 d5 d6 d7 df t0 t1 t2 t3 t4 t5 t6 t7 t8 t9 tf
        go_wp2_with fail
        go_roundw
        case rel =>
          refine ⟨k + 1, { y with boxes := y.boxes ++ [v], bA := A2, bc := c2 }, by omega, by go_num, heap_far KZ2.out (by simp; omega), ?_, (O2.out.chg (S := fun b => b = n3) (by repeat first | with_reducible exact Chg.refl _ _ | with_reducible assumption | with_reducible refine Chg.alloc ?_ _ | with_reducible refine Chg.drewN ?_ _ | with_reducible refine Chg.drew ?_ | (refine Chg.set ?_ (by simp <;> omega) _)) (fun b hb _ => hb.2.1)).mono (fun b hb _ => ⟨hb.1, hb.2.1⟩), AP2.out, D2.out, (by repeat first | with_reducible exact Below.refl _ _ | with_reducible assumption | with_reducible refine bl_alloc ?_ _ | with_reducible refine bl_drewN ?_ _ | with_reducible refine Below.drew ?_ | (refine bl_set ?_ (by simp <;> omega) _))⟩
          rw [heap_set KN2.out rfl]; simp [hostCells]
        case measure => simp [intOf]; omega
      · have hke : k = x.boxes.length := by omega
        have D1 : Hid (y.d = { x.d with boxes := x.d.boxes.take x.boxes.length, fifo := x.d.fifo.take 0, queue := x.d.queue.take 0 }) := by have := hd.out; rw [hke] at this; exact this
        clear hke
        obtain ⟨s0, s1, s2, s3, s4, s5, s6, s7, s8, s9, s10, s11, s12, sf⟩ := thirteen (R.out wr hb).blk
        go_wp2_with fail
        clear s0 s1 s2 s3 s4 s5 s6 s7 s8 s9 s10 s11 s12 sf
        go_loopw [55] (fun i wr => ∃ (k : Nat) (y : LHost), k ≤ x.fifo.length ∧ i = .int .i64 k ∧ wr.heap[w.heap.size]? = some (.cells hzero 37 (0, 0)) ∧ wr.heap[n3]? = some (.cells (hostCells y) 37 (0, 0)) ∧ Hid (OwnHost (fun b => w.heap.size + 1 ≤ b ∧ b ≠ n3) wr y) ∧ Hid (HostAp y) ∧ Hid (y.d = { x.d with boxes := x.d.boxes.take x.boxes.length, fifo := x.d.fifo.take k, queue := x.d.queue.take 0 }) ∧ Below w.heap.size w wr) (fun i _ => x.fifo.length - (intOf i).toNat)
        case atStart => exact ⟨0, y, by omega, rfl, HZ0.out, H3.out, ho.out, hap.out, D1.out, hb⟩
        case round =>
          clear HZ0 H3 ho hap hd D1 hb hyl z3
          obtain ⟨k, y, hk, rfl, hz0, h3, ho, hap, hd, hb⟩ := hrel
          have HZ0 : Hid _ := hz0
          have H3 : Hid _ := h3
          have hyl : y.fifo.length ≤ 32 := by have := congrArg (fun d => d.fifo.length) hd.out; simp [LHost.d] at this; omega
          have z3 := lt_of_heap h3
          clear hz0 h3
          by_cases hlt : k < x.fifo.length
          · have RB := (R.out wr hb).own.hostR.q
            obtain ⟨gb, o, hA, hgb, ⟨e0, e1, e2, e3, e4⟩⟩ := frameAt RB.1 k hlt
            rw [hA]
            obtain ⟨z, hz⟩ : ∃ z, z = x.fifo[k] := ⟨_, rfl⟩
            have HF : Hid (FrameR True wr z) := by rw [hz]; exact RB.2 _ (List.getElem_mem hlt)
            have HD : z.data.length ≤ 8 := by rw [hz]; exact BD.out.qd _ (List.mem_map_of_mem (List.getElem_mem hlt))
            rw [← hz] at e0 e1 e2 e3 e4
            have HZ : Hid _ := hz
            clear hz hA RB
            go_wp2_with fail
            obtain ⟨WB, eB⟩ : ∃ W, W = wr.alloc (.cells #[.bool z.ext, .int .u32 z.id, .bool z.rtr, .int .i64 z.dlc, .slice z.A z.data.length z.cap] 49) := ⟨_, rfl⟩
            rw [← eB]
            have bB : Below wr.heap.size wr WB := by rw [eB]; exact (by repeat first | with_reducible exact Below.refl _ _ | with_reducible assumption | with_reducible refine bl_alloc ?_ _ | with_reducible refine bl_drewN ?_ _ | with_reducible refine Below.drew ?_ | (refine bl_set ?_ (by simp <;> omega) _))
            have zB : WB.heap.size = wr.heap.size + 1 := by rw [eB]; simp
            have kB : WB.heap[wr.heap.size]? = some (.cells #[.bool z.ext, .int .u32 z.id, .bool z.rtr, .int .i64 z.dlc, .slice z.A z.data.length z.cap] 49 (0, 0)) := by rw [eB]; exact heap_new _ _ rfl
            clear eB e0 e1 e2 e3 e4
            obtain ⟨d0, d1, d2, d3, d4, df⟩ := five kB
            have kn := heap_below bB H3.out
            have OB : Hid (OwnHost (fun b => w.heap.size + 1 ≤ b ∧ b ≠ n3 ∧ b ≠ wr.heap.size) WB y) := (ho.out.mono (fun i hi hl => ⟨hi.1, hi.2, by omega⟩)).below bB
            have HFB : Hid _ := HF.out.below bB
            have KZB : Hid _ := heap_below bB HZ0.out
            have hbB : Below w.heap.size w WB := bl_then hb bB
            have zb := hb.size
            have KNB : Hid _ := kn
            obtain ⟨t0, t1, t2, t3, t4, t5, t6, t7, t8, t9, tf⟩ := ten kn
            have ZB : Hid _ := zB
            clear kn kB zB
            go_region_law
              (first
                | (refine step_app _ rfl (.tmp 60) (.tmp 63) 34 rfl 0 49 _ 5 48 Try.underlying34 infoFrame rfl (by omega) (by omega) _ y.fifo.length _ rfl (by exact own_chg (S := fun _ => False) OC.out.q.own (by repeat first | with_reducible exact Chg.refl _ _ | with_reducible assumption | with_reducible refine Chg.alloc ?_ _ | with_reducible refine Chg.drewN ?_ _ | with_reducible refine Chg.drew ?_ | (refine Chg.set ?_ (by simp <;> omega) _)) (fun _ _ h => h)) 49 _ 1 1 v.cs rfl (by rw [HV.out]; exact cells_new _ [_, _, _, _, _] _ _ (by simp)) rfl (one_frame _) (by omega) (Nat.zero_le _) ?_
                   intro A2 c2 w2 hown2 hgrow hloc
                   have hch2 : Chg (fun b => w.heap.size + 1 ≤ b ∧ b ≠ wr.heap.size) WB w2 := Chg.trans (by exact (by repeat first | with_reducible exact Chg.refl _ _ | with_reducible assumption | with_reducible refine Chg.alloc ?_ _ | with_reducible refine Chg.drewN ?_ _ | with_reducible refine Chg.drew ?_ | (refine Chg.set ?_ (by simp <;> omega) _))) (Chg.grown hgrow (fun g hg _ => ⟨(OC.out.q.at_ g hg).1, (OC.out.q.at_ g hg).2.2⟩)) (fun _ _ h => h)
                   have kn2 := heap_grown hgrow (heap_old _ KNC.out) (fun e => (OC.out.q.at_ _ e.symm).2.1 rfl)
                   have KZ2 : Hid _ := heap_grown hgrow (heap_old _ KZC.out) (fun e => by have := (OC.out.q.at_ _ e.symm).1; omega)
                   have O2 : Hid (OwnHost (fun b => w.heap.size + 1 ≤ b ∧ b ≠ n3 ∧ b ≠ wr.heap.size) w2 { y with fifo := y.fifo ++ [v], qA := A2, qc := c2 }) := OwnHost.snocF (H := by exact OC.out.chg (S := fun _ => False) (by repeat first | with_reducible exact Chg.refl _ _ | with_reducible assumption | with_reducible refine Chg.alloc ?_ _ | with_reducible refine Chg.drewN ?_ _ | with_reducible refine Chg.drew ?_ | (refine Chg.set ?_ (by simp <;> omega) _)) (fun _ _ _ h => h)) (z := v) (ho := hown2) (hg := hgrow) (hl := hloc) (hn := by have := zC.out; have := ZB.out; simp; omega) (hR := by rw [HV.out]; exact Cells.chg (S := fun _ => False) R1.out (by repeat first | with_reducible exact Chg.refl _ _ | with_reducible assumption | with_reducible refine Chg.alloc ?_ _ | with_reducible refine Chg.drewN ?_ _ | with_reducible refine Chg.drew ?_ | (refine Chg.set ?_ (by simp <;> omega) _)) (fun _ _ h => h)) (hI := by rw [HV.out]; exact fun a ha => by have := I1.out a ha; simp; omega)
                   obtain ⟨u0, u1, u2, u3, u4, u5, u6, u7, u8, u9, uf⟩ := ten kn2
                   have zn2 := lt_of_heap kn2
                   have KN2 : Hid _ := kn2
                   clear kn2 hgrow hloc hown2)
                | (go_simp
                   go_at_call 82
                   refine (copyFrame_any _ z (by omega) (FrameR.below HFB.out (by exact (by repeat first | with_reducible exact Below.refl _ _ | with_reducible assumption | with_reducible refine bl_alloc ?_ _ | with_reducible refine bl_drewN ?_ _ | with_reducible refine Below.drew ?_ | (refine bl_set ?_ (by simp <;> omega) _))))).mono ?_
                   rintro e wC ⟨A', c', rfl, R', G', hbb⟩
                   have g1 : Below WB.heap.size WB wC := bl_then (by exact (by repeat first | with_reducible exact Below.refl _ _ | with_reducible assumption | with_reducible refine bl_alloc ?_ _ | with_reducible refine bl_drewN ?_ _ | with_reducible refine Below.drew ?_ | (refine bl_set ?_ (by simp <;> omega) _))) hbb
                   have hch1 : Chg (fun b => w.heap.size + 1 ≤ b ∧ b ≠ wr.heap.size) WB wC := Chg.of_below g1 _
                   have knC := heap_below g1 KNB.out
                   obtain ⟨p0, p1, p2, p3, p4, p5, p6, p7, p8, p9, pf⟩ := ten knC
                   have znC := lt_of_heap knC
                   have KNC : Hid _ := knC
                   have zC : Hid _ := g1.size
                   have KZC : Hid _ := heap_below g1 KZB.out
                   have OC : Hid _ := OB.out.below g1
                   have I1 : Hid (InA (wr.heap.size + 1) wC.heap.size A') := fun a ha => by have := G' a ha; have := ZB.out; simp at *; omega
                   have R1 : Hid _ := R'
                   obtain ⟨v, hv⟩ : ∃ v : LFrame, v = ⟨z.ext, z.id, z.rtr, z.dlc, A', c', z.data⟩ := ⟨_, rfl⟩
                   have HV : Hid _ := hv
                   clear hv R' G' hbb knC
                   go_wp2_with fail))
            all_goals (
              clear d0 d1 d2 d3 d4 df
              have hb2 : Below w.heap.size w w2 := bl_chg hbB hch2 (fun b hb => by omega)
              have AP2 : Hid (HostAp { y with fifo := y.fifo ++ [v], qA := A2, qc := c2 }) := hap.out.snocF ho.out.dataLt v (by rw [HV.out]; exact fun a ha => by have := I1.out a ha; omega) A2 c2
              have D2 : Hid (LHost.d { y with fifo := y.fifo ++ [v], qA := A2, qc := c2 } = { x.d with boxes := x.d.boxes.take x.boxes.length, fifo := x.d.fifo.take (k + 1), queue := x.d.queue.take 0 }) := by
                have h1 : LHost.d { y with fifo := y.fifo ++ [v], qA := A2, qc := c2 } = { y.d with fifo := y.d.fifo ++ [v.d] } := by simp [LHost.d]
                have h2 : k < x.d.fifo.length := by simpa [LHost.d] using hlt
                have h4 : x.d.fifo[k] = v.d := by simp only [LHost.d, List.getElem_map]; rw [← HZ.out, HV.out]; rfl
                rw [h1, hd.out]
                show _ = _
                rw [List.take_succ_eq_append_getElem h2, h4]
              go_wp2_with fail
              go_roundw
              case rel =>
                refine ⟨k + 1, { y with fifo := y.fifo ++ [v], qA := A2, qc := c2 }, by omega, by go_num, heap_far KZ2.out (by simp; omega), ?_, (O2.out.chg (S := fun b => b = n3) (by repeat first | with_reducible exact Chg.refl _ _ | with_reducible assumption | with_reducible refine Chg.alloc ?_ _ | with_reducible refine Chg.drewN ?_ _ | with_reducible refine Chg.drew ?_ | (refine Chg.set ?_ (by simp <;> omega) _)) (fun b hb _ => hb.2.1)).mono (fun b hb _ => ⟨hb.1, hb.2.1⟩), AP2.out, D2.out, (by repeat first | with_reducible exact Below.refl _ _ | with_reducible assumption | with_reducible refine bl_alloc ?_ _ | with_reducible refine bl_drewN ?_ _ | with_reducible refine Below.drew ?_ | (refine bl_set ?_ (by simp <;> omega) _))⟩
                rw [heap_set KN2.out rfl]; simp [hostCells]
              case measure => simp [intOf]; omega)
          · have hke : k = x.fifo.length := by omega
            have D1 : Hid (y.d = { x.d with boxes := x.d.boxes.take x.boxes.length, fifo := x.d.fifo.take x.fifo.length, queue := x.d.queue.take 0 }) := by have := hd.out; rw [hke] at this; exact this
            clear hke
            obtain ⟨s0, s1, s2, s3, s4, s5, s6, s7, s8, s9, s10, s11, s12, sf⟩ := thirteen (R.out wr hb).blk
            go_wp2_with fail
            clear s0 s1 s2 s3 s4 s5 s6 s7 s8 s9 s10 s11 s12 sf
            go_loopw [73] (fun i wr => ∃ (k : Nat) (y : LHost), k ≤ x.queue.length ∧ i = .int .i64 k ∧ wr.heap[w.heap.size]? = some (.cells hzero 37 (0, 0)) ∧ wr.heap[n3]? = some (.cells (hostCells y) 37 (0, 0)) ∧ Hid (OwnHost (fun b => w.heap.size + 1 ≤ b ∧ b ≠ n3) wr y) ∧ Hid (HostAp y) ∧ Hid (y.d = { x.d with boxes := x.d.boxes.take x.boxes.length, fifo := x.d.fifo.take x.fifo.length, queue := x.d.queue.take k }) ∧ Below w.heap.size w wr) (fun i _ => x.queue.length - (intOf i).toNat)
            case atStart => exact ⟨0, y, by omega, rfl, HZ0.out, H3.out, ho.out, hap.out, D1.out, hb⟩
            case round =>
              clear HZ0 H3 ho hap hd D1 hb hyl z3
              obtain ⟨k, y, hk, rfl, hz0, h3, ho, hap, hd, hb⟩ := hrel
              have HZ0 : Hid _ := hz0
              have H3 : Hid _ := h3
              have hyl : y.queue.length ≤ 32 := by have := congrArg (fun d => d.queue.length) hd.out; simp [LHost.d] at this; omega
              have z3 := lt_of_heap h3
              clear hz0 h3
              by_cases hlt : k < x.queue.length
              · have RB := (R.out wr hb).own.hostR.e
                obtain ⟨gb, o, hA, hgb, ⟨e0, e1, e2, e3, e4, e5, e6, e7⟩⟩ := eventAt RB.1 k hlt
                rw [hA]
                obtain ⟨z, hz⟩ : ∃ z, z = x.queue[k] := ⟨_, rfl⟩
                have HF : Hid (FrameR True wr z.f) := by rw [hz]; exact RB.2 _ (List.getElem_mem hlt)
                have HD : z.f.data.length ≤ 8 := by rw [hz]; exact BD.out.ed _ (List.mem_map_of_mem (List.getElem_mem hlt))
                rw [← hz] at e0 e1 e2 e3 e4 e5 e6 e7
                have HZ : Hid _ := hz
                clear hz hA RB
                go_wp2_with fail
                refine (copyFrame_any _ z.f (by omega) (HF.out.below (by exact (by repeat first | with_reducible exact Below.refl _ _ | with_reducible assumption | with_reducible refine bl_alloc ?_ _ | with_reducible refine bl_drewN ?_ _ | with_reducible refine Below.drew ?_ | (refine bl_set ?_ (by simp <;> omega) _))))).mono ?_; rintro e wC ⟨A', c', rfl, R', G', hbb⟩
                have g1 : Below wr.heap.size wr wC := bl_then (by exact (by repeat first | with_reducible exact Below.refl _ _ | with_reducible assumption | with_reducible refine bl_alloc ?_ _ | with_reducible refine bl_drewN ?_ _ | with_reducible refine Below.drew ?_ | (refine bl_set ?_ (by simp <;> omega) _))) hbb
                have hbC : Below w.heap.size w wC := bl_then hb g1
                have kb := heap_below hbb (heap_new (W := wr) _ _ rfl)
                have kn := heap_below g1 H3.out
                have kz : Hid _ := heap_below g1 HZ0.out
                have OC : Hid (OwnHost (fun b => w.heap.size + 1 ≤ b ∧ b ≠ n3 ∧ b ≠ wr.heap.size) wC y) := (ho.out.mono (fun i hi hl => ⟨hi.1, hi.2, by omega⟩)).below g1
                have I1 : Hid (InA (wr.heap.size + 1) wC.heap.size A') := fun a ha => by have := G' a ha; simp at this; omega
                have R1 : Hid _ := R'
                obtain ⟨d0, d1, d2, d3, d4, d5, d6, d7, df⟩ := eight kb
                obtain ⟨t0, t1, t2, t3, t4, t5, t6, t7, t8, t9, tf⟩ := ten kn
                have zC := lt_of_heap kb
                have zn := lt_of_heap kn
                have zb := hb.size
                have KN : Hid _ := kn
                obtain ⟨v, hv⟩ : ∃ v : LEvent, v = ⟨z.kind, z.a, z.b, ⟨z.f.ext, z.f.id, z.f.rtr, z.f.dlc, A', c', z.f.data⟩⟩ := ⟨_, rfl⟩
                have HV : Hid _ := hv
                clear hv kb kn hbb R' G' e0 e1 e2 e3 e4 e5 e6 e7 g1 hb
                go_wp2_with (at_builtin; refine wpl_app _ rfl (.tmp 82) (.tmp 84) 35 rfl 0 95 _ 8 72 Try.underlying35 infoEvent rfl (by omega) (by omega) _ y.queue.length _ rfl (by exact own_chg (S := fun b => b = wr.heap.size) OC.out.e.own (by repeat first | with_reducible exact Chg.refl _ _ | with_reducible assumption | with_reducible refine Chg.alloc ?_ _ | with_reducible refine Chg.drewN ?_ _ | with_reducible refine Chg.drew ?_ | (refine Chg.set ?_ (by simp <;> omega) _)) (fun g hg => (OC.out.e.at_ g hg).2.2)) 95 _ 1 1 v.cs rfl (by rw [HV.out]; exact cells_new _ [_, _, _, _, _, _, _, _] _ _ (by simp)) rfl (one_event _) (by omega) (Nat.zero_le _) ?_)
                intro A2 c2 w2 hown2 hgrow hloc
                have hb2 : Below w.heap.size w w2 := bl_grown (by exact (by repeat first | with_reducible exact Below.refl _ _ | with_reducible assumption | with_reducible refine bl_alloc ?_ _ | with_reducible refine bl_drewN ?_ _ | with_reducible refine Below.drew ?_ | (refine bl_set ?_ (by simp <;> omega) _))) hgrow (fun g hg => by have := (OC.out.e.at_ g hg).1; omega)
                have kn2 := heap_grown hgrow (heap_chg (S := fun b => b = wr.heap.size) (by exact (by repeat first | with_reducible exact Chg.refl _ _ | with_reducible assumption | with_reducible refine Chg.alloc ?_ _ | with_reducible refine Chg.drewN ?_ _ | with_reducible refine Chg.drew ?_ | (refine Chg.set ?_ (by simp <;> omega) _))) KN.out (by omega)) (fun e => (OC.out.e.at_ _ e.symm).2.1 rfl)
                have kz2 := heap_grown hgrow (heap_chg (S := fun b => b = wr.heap.size) (by exact (by repeat first | with_reducible exact Chg.refl _ _ | with_reducible assumption | with_reducible refine Chg.alloc ?_ _ | with_reducible refine Chg.drewN ?_ _ | with_reducible refine Chg.drew ?_ | (refine Chg.set ?_ (by simp <;> omega) _))) kz.out (by omega)) (fun e => by have := (OC.out.e.at_ _ e.symm).1; omega)
                have O2 : Hid (OwnHost (fun b => w.heap.size + 1 ≤ b ∧ b ≠ n3 ∧ b ≠ wr.heap.size) w2 { y with queue := y.queue ++ [v], eA := A2, ec := c2 }) := OwnHost.snocE (H := by exact OC.out.chg (S := fun b => b = wr.heap.size) (by repeat first | with_reducible exact Chg.refl _ _ | with_reducible assumption | with_reducible refine Chg.alloc ?_ _ | with_reducible refine Chg.drewN ?_ _ | with_reducible refine Chg.drew ?_ | (refine Chg.set ?_ (by simp <;> omega) _)) (fun b hb _ => hb.2.2)) (z := v) (ho := hown2) (hg := hgrow) (hl := hloc) (hn := by simp; omega) (hR := by rw [HV.out]; exact Cells.chg (S := fun b => b = wr.heap.size) R1.out (by repeat first | with_reducible exact Chg.refl _ _ | with_reducible assumption | with_reducible refine Chg.alloc ?_ _ | with_reducible refine Chg.drewN ?_ _ | with_reducible refine Chg.drew ?_ | (refine Chg.set ?_ (by simp <;> omega) _)) (fun a ha => by have := I1.out a ha; omega)) (hI := by rw [HV.out]; exact fun a ha => by have := I1.out a ha; simp; omega)
                have AP2 : Hid (HostAp { y with queue := y.queue ++ [v], eA := A2, ec := c2 }) := hap.out.snocE ho.out.dataLt v (by rw [HV.out]; exact fun a ha => by have := I1.out a ha; omega) A2 c2
                have D2 : Hid (LHost.d { y with queue := y.queue ++ [v], eA := A2, ec := c2 } = { x.d with boxes := x.d.boxes.take x.boxes.length, fifo := x.d.fifo.take x.fifo.length, queue := x.d.queue.take (k + 1) }) := by
                  have h1 : LHost.d { y with queue := y.queue ++ [v], eA := A2, ec := c2 } = { y.d with queue := y.d.queue ++ [v.d] } := by simp [LHost.d]
                  have h2 : k < x.d.queue.length := by simpa [LHost.d] using hlt
                  have h4 : x.d.queue[k] = v.d := by simp only [LHost.d, List.getElem_map]; rw [← HZ.out, HV.out]; rfl
                  rw [h1, hd.out]
                  show _ = _
                  rw [List.take_succ_eq_append_getElem h2, h4]
                have KN2 : Hid _ := kn2
                obtain ⟨u0, u1, u2, u3, u4, u5, u6, u7, u8, u9, uf⟩ := ten kn2
                have zn2 := lt_of_heap kn2
                have KZ2 : Hid _ := kz2
                clear kn2 kz2 hgrow hloc hown2 d0 d1 d2 d3 d4 d5 d6 d7 df t0 t1 t2 t3 t4 t5 t6 t7 t8 t9 tf
                go_wp2_with fail
                go_roundw
                case rel =>
                  refine ⟨k + 1, { y with queue := y.queue ++ [v], eA := A2, ec := c2 }, by omega, by go_num, heap_far KZ2.out (by simp; omega), ?_, (O2.out.chg (S := fun b => b = n3) (by repeat first | with_reducible exact Chg.refl _ _ | with_reducible assumption | with_reducible refine Chg.alloc ?_ _ | with_reducible refine Chg.drewN ?_ _ | with_reducible refine Chg.drew ?_ | (refine Chg.set ?_ (by simp <;> omega) _)) (fun b hb _ => hb.2.1)).mono (fun b hb _ => ⟨hb.1, hb.2.1⟩), AP2.out, D2.out, (by repeat first | with_reducible exact Below.refl _ _ | with_reducible assumption | with_reducible refine bl_alloc ?_ _ | with_reducible refine bl_drewN ?_ _ | with_reducible refine Below.drew ?_ | (refine bl_set ?_ (by simp <;> omega) _))⟩
                  rw [heap_set KN2.out rfl]; simp [hostCells]
                case measure => simp [intOf]; omega
              · have hke : k = x.queue.length := by omega
                have D1 : Hid (y.d = { x.d with boxes := x.d.boxes.take x.boxes.length, fifo := x.d.fifo.take x.fifo.length, queue := x.d.queue.take x.queue.length }) := by have := hd.out; rw [hke] at this; exact this
                clear hke
                obtain ⟨c0, c1, c2, c3, c4, c5, c6, c7, c8, c9, cf⟩ := ten H3.out
                obtain ⟨f0, f1, f2, f3, f4, f5, f6, f7, f8, f9, ff⟩ := ten HZ0.out
                have zb := hb.size
                go_wp2_with fail
                refine bodyPost_ret (v := hv y) (by simp [results, Try.results36, go_sem, hv, *]) rfl (Ret.mk y rfl ⟨?_, ?_, hap.out, (by repeat first | with_reducible exact Below.refl _ _ | with_reducible assumption | with_reducible refine bl_alloc ?_ _ | with_reducible refine bl_drewN ?_ _ | with_reducible refine Below.drew ?_ | (refine bl_set ?_ (by simp <;> omega) _))⟩)
                · rw [D1.out, List.take_of_length_le (by simp [LHost.d]), List.take_of_length_le (by simp [LHost.d]), List.take_of_length_le (by simp [LHost.d])]
                · exact (ho.out.chg (S := fun b => b = w.heap.size) (by repeat first | with_reducible exact Chg.refl _ _ | with_reducible assumption | with_reducible refine Chg.alloc ?_ _ | with_reducible refine Chg.drewN ?_ _ | with_reducible refine Chg.drew ?_ | (refine Chg.set ?_ (by simp <;> omega) _)) (fun b hb _ => by omega)).mono (fun b hb _ => by omega)
end Go.Proofs.Ytcfhjmflnochcaa
