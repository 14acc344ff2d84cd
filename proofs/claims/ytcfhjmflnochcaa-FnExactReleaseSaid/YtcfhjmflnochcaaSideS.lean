/-
  A side filled from a host.
-/
import Derived.Test.YtcfhjmflnochcaaSideR
import Derived.Test.YtcfhjmflnochcaaSnoc
import Derived.RegionTactic
import Derived.Deep.RegionLaw
import Derived.BigRegion
set_option linter.unusedVariables false
set_option linter.unusedSimpArgs false
namespace Go.Proofs.Ytcfhjmflnochcaa
open Go.RowKit
variable {p q : Prop}

theorem MapAt.empty {w : World} {b : Nat} (h : MapAt w b 0 (.map [])) : ∃ c, w.heap[b]? = some (.map #[] c) := by
  obtain ⟨⟨es, clock, hb, _, hs, _⟩⟩ := h
  have : es = #[] := Array.eq_empty_of_size_eq_zero (by omega)
  subst this
  exact ⟨clock, hb⟩
theorem run_clear_empty {W : World} {m c : Nat} (h : W.heap[m]? = some (.map #[] c)) (ty : TypeId) : (Builtin.clear_ #[110] ty #[.map (some m)]).run Try.prog W = .ok (.tuple #[]) W := by
  have e : W.heap.setIfInBounds m (.map #[] c) = W.heap := by
    apply Array.ext_getElem?
    intro i
    by_cases hi : m = i
    · subst hi
      rw [Array.getElem?_setIfInBounds_self_of_lt (lt_of_heap h)]
      exact h.symm
    · rw [Array.getElem?_setIfInBounds_ne hi]
  simp [Builtin.clear_, run_underlying Try.underlying110, MapKept.run_getObj_map h, MapKept.run_setObj_map _ h, Result.andThen, Sem.run_bind, e]
def sideC (x : LHost) (m : Nat) (lf le : Int) : Array Value := #[.int .i64 x.cfg.boxes, .int .i64 x.cfg.fifo, .int .i64 x.cfg.policy, .int .i64 x.cfg.events, .slice x.fA x.filters.length x.fc, .slice x.bA x.boxes.length x.bc, .map (some m), .int .i64 lf, .slice x.qA x.fifo.length x.qc, .int .i64 le, .slice x.eA x.queue.length x.ec, .int .i64 x.lost, .int .i64 x.stamp]
theorem sideC_eq (x : LHost) (m : Nat) : sideC x m x.cfg.fifo x.cfg.events = sideCells x m := rfl
def host1 (x : LHost) : LHost := ⟨x.cfg, none, 0, [], none, 0, [], none, 0, [], none, 0, [], x.lost, x.stamp⟩

def set6 (w : World) (g : Nat) (y : LHost) : World :=
  (((((w.setCell ⟨g, 0, none⟩ (.int .i64 y.cfg.boxes)).setCell ⟨g, 1, none⟩ (.int .i64 y.cfg.fifo)).setCell ⟨g, 2, none⟩ (.int .i64 y.cfg.policy)).setCell ⟨g, 3, none⟩ (.int .i64 y.cfg.events)).setCell ⟨g, 11, none⟩ (.int .i64 y.lost)).setCell ⟨g, 12, none⟩ (.int .i64 y.stamp)
theorem set6_arr (y : LHost) (m : Nat) : ((((((sideC (host1 LHost.zero) m 0 0).setIfInBounds 0 (.int .i64 y.cfg.boxes)).setIfInBounds 1 (.int .i64 y.cfg.fifo)).setIfInBounds 2 (.int .i64 y.cfg.policy)).setIfInBounds 3 (.int .i64 y.cfg.events)).setIfInBounds 11 (.int .i64 y.lost)).setIfInBounds 12 (.int .i64 y.stamp) = sideC (host1 y) m 0 0 := by kernel_rfl
theorem set6_heap {w : World} {g m : Nat} (y : LHost) (h : w.heap[g]? = some (.cells (sideC (host1 LHost.zero) m 0 0) 116 (0, 0))) : (set6 w g y).heap[g]? = some (.cells (sideC (host1 y) m 0 0) 116 (0, 0)) := by
  rw [← set6_arr]
  unfold set6
  exact heap_set (heap_set (heap_set (heap_set (heap_set (heap_set h rfl) rfl) rfl) rfl) rfl) rfl
theorem set6_chg (w : World) (g : Nat) (y : LHost) : Chg (fun b => b = g) w (set6 w g y) := by unfold set6; exact (by repeat first | with_reducible exact Chg.refl _ _ | with_reducible assumption | with_reducible refine Chg.alloc ?_ _ | with_reducible refine Chg.drewN ?_ _ | with_reducible refine Chg.drew ?_ | (refine Chg.set ?_ (by simp <;> omega) _))
def set4r (w : World) (g : Nat) (h : LHost) : World :=
  (((w.setCell ⟨g, 7, none⟩ (.int .i64 h.cfg.fifo)).setCell ⟨g, 8, none⟩ (.slice none 0 0)).setCell ⟨g, 9, none⟩ (.int .i64 h.cfg.events)).setCell ⟨g, 10, none⟩ (.slice none 0 0)
theorem set4r_arr (y : LHost) (m : Nat) : ((((sideC y m 0 0).setIfInBounds 7 (.int .i64 y.cfg.fifo)).setIfInBounds 8 (.slice none 0 0)).setIfInBounds 9 (.int .i64 y.cfg.events)).setIfInBounds 10 (.slice none 0 0) = sideCells { y with fifo := [], qA := none, qc := 0, queue := [], eA := none, ec := 0 } m := by kernel_rfl
theorem set4r_heap {w : World} {g m : Nat} {h : LHost} (y : LHost) (hc : h.cfg = y.cfg) (k : w.heap[g]? = some (.cells (sideC y m 0 0) 116 (0, 0))) : (set4r w g h).heap[g]? = some (.cells (sideCells { y with fifo := [], qA := none, qc := 0, queue := [], eA := none, ec := 0 } m) 116 (0, 0)) := by
  rw [← set4r_arr]
  unfold set4r
  rw [hc]
  exact heap_set (heap_set (heap_set (heap_set k rfl) rfl) rfl) rfl
theorem set4r_chg (w : World) (g : Nat) (h : LHost) : Chg (fun b => b = g) w (set4r w g h) := by unfold set4r; exact (by repeat first | with_reducible exact Chg.refl _ _ | with_reducible assumption | with_reducible refine Chg.alloc ?_ _ | with_reducible refine Chg.drewN ?_ _ | with_reducible refine Chg.drew ?_ | (refine Chg.set ?_ (by simp <;> omega) _))
theorem TM.nil : TM (.map []) [] := ⟨Maps.tidy_empty, fun t => rfl, rfl, fun i h => by simp at h⟩
theorem any_snoc {α : Type} {f : α → Bool} {xs : List α} {y : α} : (xs ++ [y]).any f = (xs.any f || f y) := by simp
theorem TM.free' {D : DataW Unit} {bs : List DBox} (h : TM D bs) {b : DBox} (hb : b.used = false) : TM D (bs ++ [b]) := by
  refine ⟨h.tidy, fun t => ?_, ?_, fun i hi hu z => ?_⟩
  · rw [h.has, any_snoc, hb]; simp
  · rw [h.size]; simp [List.countP_cons, hb]
  · rcases Nat.lt_or_ge i bs.length with hl | hl
    · rw [List.getElem_append_left hl] at hu ⊢; exact h.at_ i hl hu z
    · rw [List.getElem_append_right hl] at hu
      simp [hb] at hu
theorem TM.used' {D : DataW Unit} {bs : List DBox} (h : TM D bs) {b : DBox} (hb : b.used = true) (hn : bs.any (fun c => c.used && c.tag == b.tag) = false) : TM (D.put (.int .i64 b.tag) (.lit (.int .i64 bs.length))) (bs ++ [b]) := by
  have hD : Maps.has D (.int .i64 b.tag) = false := by rw [h.has]; exact hn
  refine ⟨h.tidy.put (isKey_i64 _) _, fun t => ?_, ?_, fun i hi hu z => ?_⟩
  · rw [any_snoc, hb]
    by_cases e : t = b.tag
    · subst e; rw [Maps.has_put_same h.tidy.isMap (isKey_i64 _)]; simp
    · rw [Maps.has_put_other (fun e2 => e (by injection e2)), h.has]
      have : (b.tag == t) = false := by simpa using fun e2 => e e2.symm
      simp [this]
  · rw [Maps.size_put h.tidy, hD, h.size]; simp [List.countP_cons, hb]
  · rcases Nat.lt_or_ge i bs.length with hl | hl
    · rw [List.getElem_append_left hl] at hu ⊢
      rw [Maps.atKey_put_other (fun e => ?_)]
      · exact h.at_ i hl hu z
      · injection e with _ e
        rw [Bool.eq_false_iff] at hn
        exact hn (any_iff.2 ⟨i, hl, by simp [hu, e]⟩)
    · have e : i = bs.length := by simp at hi; omega
      subst e
      rw [List.getElem_append_right (Nat.le_refl _)]
      simp only [Nat.sub_self, List.getElem_singleton]
      exact Maps.atKey_put_same h.tidy.isMap (isKey_i64 _) _ _
theorem fresh_tag {bs : List DBox} (hp : bs.Pairwise Beside) {k : Nat} (hk : k < bs.length) (hu : bs[k].used = true) : (bs.take k).any (fun c => c.used && c.tag == bs[k].tag) = false := by
  rw [Bool.eq_false_iff]
  intro hc
  obtain ⟨j, hj, hh⟩ := any_iff.1 hc
  simp at hj
  have e : (bs.take k)[j] = bs[j]'(by omega) := by simp
  rw [e] at hh
  simp only [Bool.and_eq_true, beq_iff_eq] at hh
  exact beside_ne hp (i := j) (j := k) (by omega) hk (by omega) hh.1 hu hh.2

def set5 (w : World) (b : Nat) (f : LFrame) : World :=
  ((((w.setCell ⟨b, 3, none⟩ (.bool f.ext)).setCell ⟨b, 4, none⟩ (.int .u32 f.id)).setCell ⟨b, 5, none⟩ (.bool f.rtr)).setCell ⟨b, 6, none⟩ (.int .i64 f.dlc)).setCell ⟨b, 7, none⟩ (.slice f.A f.data.length f.cap)
theorem set5_arr (a0 a1 a2 a3 a4 a5 a6 a7 : Value) (f : LFrame) : (((((#[a0, a1, a2, a3, a4, a5, a6, a7].setIfInBounds 3 (.bool f.ext)).setIfInBounds 4 (.int .u32 f.id)).setIfInBounds 5 (.bool f.rtr)).setIfInBounds 6 (.int .i64 f.dlc)).setIfInBounds 7 (.slice f.A f.data.length f.cap)) = #[a0, a1, a2, .bool f.ext, .int .u32 f.id, .bool f.rtr, .int .i64 f.dlc, .slice f.A f.data.length f.cap] := by kernel_rfl
theorem set5_heap {w : World} {b : Nat} {a0 a1 a2 a3 a4 a5 a6 a7 : Value} {ty : TypeId} (f : LFrame) (h : w.heap[b]? = some (.cells #[a0, a1, a2, a3, a4, a5, a6, a7] ty (0, 0))) : (set5 w b f).heap[b]? = some (.cells #[a0, a1, a2, .bool f.ext, .int .u32 f.id, .bool f.rtr, .int .i64 f.dlc, .slice f.A f.data.length f.cap] ty (0, 0)) := by
  rw [← set5_arr a0 a1 a2 a3 a4 a5 a6 a7]
  unfold set5
  exact heap_set (heap_set (heap_set (heap_set (heap_set h rfl) rfl) rfl) rfl) rfl
theorem set5_chg (w : World) (b : Nat) (f : LFrame) : Chg (fun k => k = b) w (set5 w b f) := by unfold set5; exact (by repeat first | with_reducible exact Chg.refl _ _ | with_reducible assumption | with_reducible refine Chg.alloc ?_ _ | with_reducible refine Chg.drewN ?_ _ | with_reducible refine Chg.drew ?_ | (refine Chg.set ?_ (by simp <;> omega) _))

set_option maxHeartbeats 100000000 in
set_option maxRecDepth 100000 in
theorem set_any (v w : World) (hvw : Below v.heap.size v w) (g m : Nat) (hvg : v.heap.size ≤ g) (hvm : v.heap.size ≤ m) (h : LHost) (hz : HostSz h) (ok : h.d.Ok) (a1 a2 a3 a4 : TypeId) (H : HostR p a1 a2 a3 a4 v h) (hg : w.heap[g]? = some (.cells (sideC (host1 LHost.zero) m 0 0) 116 (0, 0))) (hm0 : MapAt w m 0 (.map [])) :
    Calls Try.prog 78 #[.pointer (some ⟨g, 0, none⟩), .agg #[.int .i64 h.cfg.boxes, .int .i64 h.cfg.fifo, .int .i64 h.cfg.policy, .int .i64 h.cfg.events, .slice h.fA h.filters.length h.fc, .slice h.bA h.boxes.length h.bc, .slice h.qA h.fifo.length h.qc, .slice h.eA h.queue.length h.ec, .int .i64 h.lost, .int .i64 h.stamp]] w
      (Ret (fun _ : LHost => .tuple #[]) (fun y w' => y.d = h.d ∧ SideR (fun i => v.heap.size ≤ i) w' g m y ∧ Below v.heap.size v w')) := by
  have R : Hid _ := fun W (k : Below v.heap.size v W) => H.below k
  have hgl := lt_of_heap hg
  obtain ⟨clk, hm⟩ := hm0.empty
  have hml := lt_of_heap hm
  have hgm : g ≠ m := fun e => by subst e; rw [hg] at hm; injection hm with hm; cases hm
  have HG : Hid _ := hg
  have HM : Hid _ := hm0
  have OK : Hid _ := ok
  have hclr := fun W (k : Below w.heap.size w W) => run_clear_empty (heap_below k hm)
  have hcl : ∀ ty, (Builtin.clear_ #[110] ty #[.map (some m)]).run Try.prog (w.alloc (.cells #[.int .i64 h.cfg.boxes, .int .i64 h.cfg.fifo, .int .i64 h.cfg.policy, .int .i64 h.cfg.events, .slice h.fA h.filters.length h.fc, .slice h.bA h.boxes.length h.bc, .slice h.qA h.fifo.length h.qc, .slice h.eA h.queue.length h.ec, .int .i64 h.lost, .int .i64 h.stamp] 37)) = .ok (.tuple #[]) (w.alloc (.cells #[.int .i64 h.cfg.boxes, .int .i64 h.cfg.fifo, .int .i64 h.cfg.policy, .int .i64 h.cfg.events, .slice h.fA h.filters.length h.fc, .slice h.bA h.boxes.length h.bc, .slice h.qA h.fifo.length h.qc, .slice h.eA h.queue.length h.ec, .int .i64 h.lost, .int .i64 h.stamp] 37)) := hclr (w.alloc (.cells (hostCells h) 37)) (by repeat first | with_reducible exact Below.refl _ _ | with_reducible assumption | with_reducible refine bl_alloc ?_ _ | with_reducible refine bl_drewN ?_ _ | with_reducible refine Below.drew ?_ | (refine bl_set ?_ (by simp <;> omega) _))
  obtain ⟨c0, c1, c2, c3, c4, c5, c6, c7, c8, c9, c10, c11, c12, cf⟩ := thirteen hg
  clear H hg hm hm0 ok hclr
  go_enter Try.func78, Try.ntmps78
  go_wp2_with fail
  clear hcl c0 c1 c2 c3 c4 c5 c6 c7 c8 c9 c10 c11 c12 cf
  obtain ⟨W0, e0⟩ : ∃ W0, W0 = w.alloc (.cells #[.int .i64 h.cfg.boxes, .int .i64 h.cfg.fifo, .int .i64 h.cfg.policy, .int .i64 h.cfg.events, .slice h.fA h.filters.length h.fc, .slice h.bA h.boxes.length h.bc, .slice h.qA h.fifo.length h.qc, .slice h.eA h.queue.length h.ec, .int .i64 h.lost, .int .i64 h.stamp] 37) := ⟨_, rfl⟩
  rw [← e0]
  have b0 : Below w.heap.size w W0 := by rw [e0]; exact (by repeat first | with_reducible exact Below.refl _ _ | with_reducible assumption | with_reducible refine bl_alloc ?_ _ | with_reducible refine bl_drewN ?_ _ | with_reducible refine Below.drew ?_ | (refine bl_set ?_ (by simp <;> omega) _))
  have z0 : W0.heap.size = w.heap.size + 1 := by rw [e0]; simp
  have k0 : W0.heap[w.heap.size]? = some (.cells (hostCells h) 37 (0, 0)) := by rw [e0]; exact heap_new _ _ rfl
  have kg := heap_below b0 HG.out
  have km : Hid _ := HM.out.below b0
  have K0 : Hid _ := k0
  have KG : Hid _ := kg
  obtain ⟨d0, d1, d2, d3, d4, d5, d6, d7, d8, d9, df⟩ := ten k0
  obtain ⟨c0, c1, c2, c3, c4, c5, c6, c7, c8, c9, c10, c11, c12, cf⟩ := thirteen kg
  clear e0 k0 kg
  go_region
  change Exit.then _ _ _ _ ((set6 W0 g h).drew)
  have P1 := heap_drewN (n := 1) (set6_heap h KG.out)
  have P2 : Chg (fun b => b = g) W0 (set6 W0 g h).drew := (set6_chg W0 g h).drew
  change (set6 W0 g h).drew.heap[g]? = _ at P1
  generalize (set6 W0 g h).drew = W1 at P1 P2 ⊢
  have zW := P2.size
  have zv := hvw.size
  have P3 : Hid _ := heap_chg P2 K0.out (by omega)
  have P4 : Hid _ := km.out.chg P2 (fun e => hgm e.symm)
  have hb1 : Below v.heap.size v W1 := bl_chg (bl_then hvw b0) P2 (fun i hi => by omega)
  have KH : Hid _ := P1
  clear d0 d1 d2 d3 d4 d5 d6 d7 d8 d9 df c0 c1 c2 c3 c4 c5 c6 c7 c8 c9 c10 c11 c12 cf z0 P2 K0 KG HG HM km b0
  obtain ⟨d0, d1, d2, d3, d4, d5, d6, d7, d8, d9, df⟩ := ten P3.out
  obtain ⟨c0, c1, c2, c3, c4, c5, c6, c7, c8, c9, c10, c11, c12, cf⟩ := thirteen P1
  have zg := lt_of_heap P1
  have zh := lt_of_heap P3.out
  have hzf := hz.f
  clear P1
  go_wp2_with (at_builtin; refine wpl_app _ rfl (.tmp 30) (.tmp 32) 32 rfl W1.heap.size 102 _ 3 12 Try.underlying32 infoFilter rfl (by omega) (by omega) (.slice (some ⟨W1.heap.size, 0, none⟩) 0 0) 0 [] rfl (by exact own_empty _ _ _ _ (by simp) _ (by simp)) a1 h.fA h.filters.length h.fc (h.filters.flatMap DFilter.cs) rfl (by exact (R.out (W1.alloc _) (by exact (by repeat first | with_reducible exact Below.refl _ _ | with_reducible assumption | with_reducible refine bl_alloc ?_ _ | with_reducible refine bl_drewN ?_ _ | with_reducible refine Below.drew ?_ | (refine bl_set ?_ (by simp <;> omega) _)))).f) (flatMap_len DFilter.cs_len _) (one_filters _) (by omega) (by simp) ?_)
  intro A1 k1 w1 hown hgrow hloc
  have hb2 : Below v.heap.size v w1 := bl_grown (by exact (by repeat first | with_reducible exact Below.refl _ _ | with_reducible assumption | with_reducible refine bl_alloc ?_ _ | with_reducible refine bl_drewN ?_ _ | with_reducible refine Below.drew ?_ | (refine bl_set ?_ (by simp <;> omega) _))) hgrow (fun k hk => by injection hk with hk; simp at hk; omega)
  have k3 := heap_grown hgrow (heap_old _ P3.out) (by simp [Value.ownBlock]; omega)
  have kg := heap_grown hgrow (heap_old _ KH.out) (by simp [Value.ownBlock]; omega)
  have km : Hid _ := (P4.out.below (by exact (by repeat first | with_reducible exact Below.refl _ _ | with_reducible assumption | with_reducible refine bl_alloc ?_ _ | with_reducible refine bl_drewN ?_ _ | with_reducible refine Below.drew ?_ | (refine bl_set ?_ (by simp <;> omega) _)))).grown hgrow (by have := P4.out.lt; simp [Value.ownBlock]; omega)
  have HO : Hid _ := hown
  have K3 : Hid _ := k3
  have KG : Hid _ := kg
  clear hown hgrow hloc d0 d1 d2 d3 d4 d5 d6 d7 d8 d9 df c0 c1 c2 c3 c4 c5 c6 c7 c8 c9 c10 c11 c12 cf
  obtain ⟨d0, d1, d2, d3, d4, d5, d6, d7, d8, d9, df⟩ := ten k3
  obtain ⟨c0, c1, c2, c3, c4, c5, c6, c7, c8, c9, c10, c11, c12, cf⟩ := thirteen kg
  have zg1 := lt_of_heap kg
  have zh1 := lt_of_heap k3
  clear k3 kg
  go_wp2_with fail
  clear d0 d1 d2 d3 d4 d5 d6 d7 d8 d9 df c0 c1 c2 c3 c4 c5 c6 c7 c8 c9 c10 c11 c12 cf
  have hbl : h.boxes.length ≤ 8 := by rw [← h.blen2]; exact OK.out.bd.nb
  have hcs : Chg (fun b => b = g) w1 ((w1.setCell ⟨g, 4, none⟩ (.slice A1 h.filters.length k1)).setCell ⟨g, 5, none⟩ (.slice none 0 0)) := (by repeat first | with_reducible exact Chg.refl _ _ | with_reducible assumption | with_reducible refine Chg.alloc ?_ _ | with_reducible refine Chg.drewN ?_ _ | with_reducible refine Chg.drew ?_ | (refine Chg.set ?_ (by simp <;> omega) _))
  go_loopw [42] (fun i wr => ∃ (k : Nat) (y : LHost) (D : DataW Unit), k ≤ h.boxes.length ∧ i = .int .i64 k ∧ wr.heap[w.heap.size]? = some (.cells (hostCells h) 37 (0, 0)) ∧ wr.heap[g]? = some (.cells (sideC y m 0 0) 116 (0, 0)) ∧ MapAt wr m k D ∧ Hid (TM D (h.d.boxes.take k)) ∧ Hid (OwnHost (fun b => v.heap.size ≤ b ∧ b ≠ g ∧ b ≠ m ∧ b ≠ w.heap.size) wr y) ∧ Hid (y.d = { h.d with boxes := h.d.boxes.take k, fifo := h.d.fifo.take 0, queue := h.d.queue.take 0 }) ∧ Below v.heap.size v wr) (fun i _ => h.boxes.length - (intOf i).toNat)
  case atStart =>
    refine ⟨0, host0 h A1 k1, .map [], by omega, rfl, heap_chg hcs K3.out (by omega), ?_, ?_, TM.nil, ?_, host0_d _ _ _, (by repeat first | with_reducible exact Below.refl _ _ | with_reducible assumption | with_reducible refine bl_alloc ?_ _ | with_reducible refine bl_drewN ?_ _ | with_reducible refine Below.drew ?_ | (refine bl_set ?_ (by simp <;> omega) _))⟩
    · rw [heap_set (heap_set KG.out rfl) rfl]; rfl
    · exact km.out.chg hcs (fun e => hgm e.symm)
    · have h0 := own_chg HO.out hcs (fun b hb he => ty_own HO.out (by decide) hb ⟨_, _, he ▸ KG.out⟩)
      have hne : ∀ b, (Value.slice A1 h.filters.length k1).ownBlock = some b → v.heap.size ≤ b ∧ b ≠ g ∧ b ≠ m ∧ b ≠ w.heap.size := fun b hb => by
        have := own_ge HO.out hb
        have := P4.out.lt
        omega
      exact ⟨⟨own_base h0 (fun _ _ => Nat.zero_le _), hne, fun _ _ => .inl rfl, fun _ _ a ha => by cases ha⟩,
        Row.nil (own_nil _ _ _ _) (fun g h => by simp [host0, Value.ownBlock] at h), Row.nil (own_nil _ _ _ _) (fun g h => by simp [host0, Value.ownBlock] at h), Row.nil (own_nil _ _ _ _) (fun g h => by simp [host0, Value.ownBlock] at h)⟩
  case round =>
    clear HO K3 KG km hcs hb2 hb1 zg1 zh1 P3 P4 KH
    obtain ⟨k, y, D, hk, rfl, hh, hg, hm, htm, ho, hd, hb⟩ := hrel
    have HH : Hid _ := hh
    have HG : Hid _ := hg
    have HM : Hid _ := hm
    have zgr := lt_of_heap hg
    have zhr := lt_of_heap hh
    have hyl : y.boxes.length ≤ 8 := by have := congrArg (fun d => d.boxes.length) hd.out; simp [LHost.d] at this; omega
    obtain ⟨d0, d1, d2, d3, d4, d5, d6, d7, d8, d9, df⟩ := ten hh
    clear hh hg hm
    by_cases hlt : k < h.boxes.length
    · have RB := (R.out wr hb).b
      obtain ⟨gb, o, hA, hgb, ⟨e0, e1, e2, e3, e4, e5, e6, e7⟩⟩ := boxAt RB.1 k hlt
      rw [hA]
      obtain ⟨z, hz⟩ : ∃ z, z = h.boxes[k] := ⟨_, rfl⟩
      have HF : Hid (FrameR p wr z.f) := by rw [hz]; exact RB.2 _ (List.getElem_mem hlt)
      have HD : z.f.data.length ≤ 8 := by rw [hz]; exact OK.out.bd.bd _ (List.mem_map_of_mem (List.getElem_mem hlt))
      rw [← hz] at e0 e1 e2 e3 e4 e5 e6 e7
      have HZ : Hid _ := hz
      clear hz hA RB
      go_wp2_with fail
      refine (copyFrame_any _ z.f (by omega) (HF.out.below (by exact (by repeat first | with_reducible exact Below.refl _ _ | with_reducible assumption | with_reducible refine bl_alloc ?_ _ | with_reducible refine bl_drewN ?_ _ | with_reducible refine Below.drew ?_ | (refine bl_set ?_ (by simp <;> omega) _))))).mono ?_; rintro e wC ⟨A', c', rfl, R', G', hbb⟩
      have g1 : Below wr.heap.size wr wC := bl_then (by exact (by repeat first | with_reducible exact Below.refl _ _ | with_reducible assumption | with_reducible refine bl_alloc ?_ _ | with_reducible refine bl_drewN ?_ _ | with_reducible refine Below.drew ?_ | (refine bl_set ?_ (by simp <;> omega) _))) hbb
      have kb := heap_below hbb (heap_new (W := wr) _ _ rfl)
      obtain ⟨e0, e1, e2, e3, e4, e5, e6, e7, ef⟩ := eight kb
      have zC := lt_of_heap kb
      have KB : Hid _ := kb
      have R1 : Hid _ := R'
      have I1 : Hid (InA (wr.heap.size + 1) wC.heap.size A') := fun a ha => by have := G' a ha; simp at this; omega
      clear kb R' G' hbb d0 d1 d2 d3 d4 d5 d6 d7 d8 d9 df
      go_wp2_with fail
      clear e0 e1 e2 e3 e4 e5 e6 e7 ef
      have kb := set5_heap ⟨z.f.ext, z.f.id, z.f.rtr, z.f.dlc, A', c', z.f.data⟩ KB.out
      have cB := set5_chg wC wr.heap.size ⟨z.f.ext, z.f.id, z.f.rtr, z.f.dlc, A', c', z.f.data⟩
      change Code.wp _ _ _ _ (set5 wC wr.heap.size ⟨z.f.ext, z.f.id, z.f.rtr, z.f.dlc, A', c', z.f.data⟩)
      generalize set5 wC wr.heap.size ⟨z.f.ext, z.f.id, z.f.rtr, z.f.dlc, A', c', z.f.data⟩ = WB at kb cB ⊢
      dsimp only at kb
      have gB : Below wr.heap.size wr WB := bl_chg g1 cB (fun i hi => by omega)
      have zv2 := hb.size
      have zB := cB.size
      have zB2 := lt_of_heap kb
      have KBB : Hid _ := kb
      have R2 : Hid (BytesR True WB A' z.f.data) := Cells.chg R1.out cB (fun a ha => by have := I1.out a ha; omega)
      have kg := heap_below gB HG.out
      have KGB : Hid _ := kg
      have zgB := lt_of_heap kg
      have OB : Hid (OwnHost (fun b => (v.heap.size ≤ b ∧ b ≠ g ∧ b ≠ m ∧ b ≠ w.heap.size) ∧ b ≠ wr.heap.size) WB y) := (ho.out.mono (fun i hi hl => ⟨hi, by omega⟩)).below gB
      have KHB : Hid _ := heap_below gB HH.out
      have MB : Hid _ := HM.out.below gB
      have hbB : Below v.heap.size v WB := bl_then hb gB
      obtain ⟨d0, d1, d2, d3, d4, d5, d6, d7, df⟩ := eight kb
      obtain ⟨c0, c1, c2, c3, c4, c5, c6, c7, c8, c9, c10, c11, c12, cf⟩ := thirteen kg
      obtain ⟨u, hu⟩ : ∃ u : LBox, u = ⟨z.state, z.tag, z.stamp, ⟨z.f.ext, z.f.id, z.f.rtr, z.f.dlc, A', c', z.f.data⟩⟩ := ⟨_, rfl⟩
      have HU : Hid _ := hu
      clear kb kg cB g1 gB hu hb zC
      go_region_law
        ((refine step_app _ rfl (.tmp 55) (.tmp 57) 33 rfl 0 98 _ 8 72 Try.underlying33 infoBox rfl (by omega) (by omega) _ y.boxes.length _ rfl (by exact own_chg (S := fun _ => False) OB.out.b.own (by repeat first | with_reducible exact Chg.refl _ _ | with_reducible assumption | with_reducible refine Chg.alloc ?_ _ | with_reducible refine Chg.drewN ?_ _ | with_reducible refine Chg.drew ?_ | (refine Chg.set ?_ (by simp <;> omega) _)) (fun _ _ h => h)) 98 _ 1 1 u.cs rfl (by rw [HU.out]; exact cells_new _ [_, _, _, _, _, _, _, _] _ _ (by simp)) rfl (one_box _) (by omega) (Nat.zero_le _) ?_
          intro A2 cc2 w2 hown2 hgrow hloc
          have hch2 : Chg (fun b => v.heap.size ≤ b ∧ b ≠ wr.heap.size) WB w2 := Chg.trans (by exact (by repeat first | with_reducible exact Chg.refl _ _ | with_reducible assumption | with_reducible refine Chg.alloc ?_ _ | with_reducible refine Chg.drewN ?_ _ | with_reducible refine Chg.drew ?_ | (refine Chg.set ?_ (by simp <;> omega) _))) (Chg.grown hgrow (fun g hg _ => ⟨(OB.out.b.at_ g hg).1.1, (OB.out.b.at_ g hg).2⟩)) (fun _ _ h => h)
          have kg2 := heap_grown hgrow (heap_old _ KGB.out) (fun e => (OB.out.b.at_ _ e.symm).1.2.1 rfl)
          have kb2 := heap_grown hgrow (heap_old _ KBB.out) (fun e => (OB.out.b.at_ _ e.symm).2 rfl)
          have KH2 : Hid _ := heap_grown hgrow (heap_old _ KHB.out) (fun e => (OB.out.b.at_ _ e.symm).1.2.2.2 rfl)
          have M2 : Hid _ := (MB.out.below (by exact (by repeat first | with_reducible exact Below.refl _ _ | with_reducible assumption | with_reducible refine bl_alloc ?_ _ | with_reducible refine bl_drewN ?_ _ | with_reducible refine Below.drew ?_ | (refine bl_set ?_ (by simp <;> omega) _)))).grown hgrow (fun e => (OB.out.b.at_ _ e.symm).1.2.2.1 rfl)
          have O2 : Hid (OwnHost (fun b => (v.heap.size ≤ b ∧ b ≠ g ∧ b ≠ m ∧ b ≠ w.heap.size) ∧ b ≠ wr.heap.size) w2 { y with boxes := y.boxes ++ [u], bA := A2, bc := cc2 }) := OwnHost.snocB (H := by exact OB.out.chg (S := fun _ => False) (by repeat first | with_reducible exact Chg.refl _ _ | with_reducible assumption | with_reducible refine Chg.alloc ?_ _ | with_reducible refine Chg.drewN ?_ _ | with_reducible refine Chg.drew ?_ | (refine Chg.set ?_ (by simp <;> omega) _)) (fun _ _ _ h => h)) (z := u) (ho := hown2) (hg := hgrow) (hl := hloc) (hn := by simp; omega) (hR := by rw [HU.out]; exact Cells.chg (S := fun _ => False) R2.out (by repeat first | with_reducible exact Chg.refl _ _ | with_reducible assumption | with_reducible refine Chg.alloc ?_ _ | with_reducible refine Chg.drewN ?_ _ | with_reducible refine Chg.drew ?_ | (refine Chg.set ?_ (by simp <;> omega) _)) (fun _ _ h => h)) (hI := by rw [HU.out]; exact fun a ha => by have := I1.out a ha; simp; omega)
          clear d0 d1 d2 d3 d4 d5 d6 d7 df c0 c1 c2 c3 c4 c5 c6 c7 c8 c9 c10 c11 c12 cf
          obtain ⟨u0, u1, u2, u3, u4, u5, u6, u7, u8, u9, u10, u11, u12, uf⟩ := thirteen kg2
          obtain ⟨d0, d1, d2, d3, d4, d5, d6, d7, df⟩ := eight kb2
          have zg2 := lt_of_heap kg2
          have zb2 := lt_of_heap kb2
          have KG2 : Hid _ := kg2
          have KB2 : Hid _ := kb2
          clear kg2 kb2 hgrow hloc hown2))
      all_goals (
        have hb2 : Below v.heap.size v w2 := bl_chg hbB hch2 (fun b hb => hb.1)
        have h2 : k < h.d.boxes.length := by simpa [LHost.d] using hlt
        have h4 : Hid (h.d.boxes[k] = u.d) := by simp only [LHost.d, List.getElem_map]; rw [← HZ.out, HU.out]; rfl
        have D2 : Hid (LHost.d { y with boxes := y.boxes ++ [u], bA := A2, bc := cc2 } = { h.d with boxes := h.d.boxes.take (k + 1), fifo := h.d.fifo.take 0, queue := h.d.queue.take 0 }) := by
          have h1 : LHost.d { y with boxes := y.boxes ++ [u], bA := A2, bc := cc2 } = { y.d with boxes := y.d.boxes ++ [u.d] } := by simp [LHost.d]
          rw [h1, hd.out]
          show _ = _
          rw [List.take_succ_eq_append_getElem h2, h4.out]
        by_cases hs : z.state = 0
        · have q1 : (z.state != 0) = false := by simp [hs]
          have HS : Hid _ := hs
          clear hs
          go_wp2_with fail
          go_roundw
          case rel =>
            refine ⟨k + 1, { y with boxes := y.boxes ++ [u], bA := A2, bc := cc2 }, D, by omega, by go_num, heap_far KH2.out (by simp; omega), ?_, (M2.out.chg (S := fun b => b = g) (by repeat first | with_reducible exact Chg.refl _ _ | with_reducible assumption | with_reducible refine Chg.alloc ?_ _ | with_reducible refine Chg.drewN ?_ _ | with_reducible refine Chg.drew ?_ | (refine Chg.set ?_ (by simp <;> omega) _)) (fun e => hgm e.symm)).mono (by omega), ?_, (O2.out.chg (S := fun b => b = g) (by repeat first | with_reducible exact Chg.refl _ _ | with_reducible assumption | with_reducible refine Chg.alloc ?_ _ | with_reducible refine Chg.drewN ?_ _ | with_reducible refine Chg.drew ?_ | (refine Chg.set ?_ (by simp <;> omega) _)) (fun b hb _ => hb.1.2.1)).mono (fun b hb _ => hb.1), D2.out, (by repeat first | with_reducible exact Below.refl _ _ | with_reducible assumption | with_reducible refine bl_alloc ?_ _ | with_reducible refine bl_drewN ?_ _ | with_reducible refine Below.drew ?_ | (refine bl_set ?_ (by simp <;> omega) _))⟩
            · rw [heap_set KG2.out rfl]; simp [sideC]
            · have hu0 : u.d.used = false := by rw [HU.out]; simp [DBox.used, LBox.d, HS.out]
              have := htm.out.free' hu0
              rwa [List.take_succ_eq_append_getElem h2, h4.out]
          case measure => simp [intOf]; omega
        · have q1 : (z.state != 0) = true := by simp [hs]
          have HS : Hid _ := hs
          have htg := Ok_tag OK.out h2 (by rw [h4.out, HU.out]; exact hs)
          rw [h4.out, HU.out] at htg
          obtain ⟨ht0, ht1⟩ := htg
          change 0 ≤ z.tag at ht0
          change z.tag ≤ 9999 at ht1
          have hk8 : k < 8 := by omega
          have H2 : Hid _ := h2
          clear hs
          go_wp2_with fail
          have c5 : Chg (fun b => b = g) w2 (w2.setCell ⟨g, 5, none⟩ (.slice A2 (y.boxes.length + 1) cc2)) := (by repeat first | with_reducible exact Chg.refl _ _ | with_reducible assumption | with_reducible refine Chg.alloc ?_ _ | with_reducible refine Chg.drewN ?_ _ | with_reducible refine Chg.drew ?_ | (refine Chg.set ?_ (by simp <;> omega) _))
          have k5 : (w2.setCell ⟨g, 5, none⟩ (.slice A2 (y.boxes.length + 1) cc2)).heap[g]? = some (.cells (sideC { y with boxes := y.boxes ++ [u], bA := A2, bc := cc2 } m 0 0) 116 (0, 0)) := by rw [heap_set KG2.out rfl]; simp [sideC]
          generalize w2.setCell ⟨g, 5, none⟩ (.slice A2 (y.boxes.length + 1) cc2) = W5 at c5 k5 ⊢
          have kb5 := heap_chg c5 KB2.out (by omega)
          have K5 : Hid _ := k5
          have M5 : Hid _ := M2.out.chg c5 (fun e => hgm e.symm)
          clear u0 u1 u2 u3 u4 u5 u6 u7 u8 u9 u10 u11 u12 uf d0 d1 d2 d3 d4 d5 d6 d7 df
          obtain ⟨u0, u1, u2, u3, u4, u5, u6, u7, u8, u9, u10, u11, u12, uf⟩ := thirteen k5
          obtain ⟨d0, d1, d2, d3, d4, d5, d6, d7, df⟩ := eight kb5
          have zg5 := lt_of_heap k5
          have zb5 := lt_of_heap kb5
          have C5 : Hid _ := c5
          clear k5 kb5 c5
          go_still_tail 7, (by kernel_rfl)
          go_wp2_with (at_mapUpdate; refine wpl_upd _ rfl (.tmp 67) (.tmp 69) (.tmp 70) rfl m k D rfl (M5.out.keep rfl) (by omega) z.tag (k : Nat) rfl rfl ht0 (by omega) (by omega) (by omega) ?_)
          intro w4 hm4 hgr4
          have hch4 : Chg (fun b => b = g ∨ b = m) w2 w4 := Chg.trans (b := W5) (C5.out.mono (fun _ _ h => .inl h)) (Chg.trans (S := fun b => b = m) (b := W5.drew) (by exact (by repeat first | with_reducible exact Chg.refl _ _ | with_reducible assumption | with_reducible refine Chg.alloc ?_ _ | with_reducible refine Chg.drewN ?_ _ | with_reducible refine Chg.drew ?_ | (refine Chg.set ?_ (by simp <;> omega) _))) (Chg.grown hgr4 (fun k hk _ => by injection hk with hk; exact hk.symm)) (fun _ _ h => h)) (fun _ _ h => .inr h)
          have KG4 : Hid (w4.heap[g]? = some (.cells (sideC { y with boxes := y.boxes ++ [u], bA := A2, bc := cc2 } m 0 0) 116 (0, 0))) := heap_grown hgr4 (show W5.drew.heap[g]? = _ from K5.out) (by simp; exact hgm)
          have HM4 : Hid _ := hm4
          clear hm4 hgr4 u0 u1 u2 u3 u4 u5 u6 u7 u8 u9 u10 u11 u12 uf d0 d1 d2 d3 d4 d5 d6 d7 df
          go_wp2_with fail
          go_roundw
          case rel =>
            refine ⟨k + 1, { y with boxes := y.boxes ++ [u], bA := A2, bc := cc2 }, _, by omega, by go_num, heap_chg hch4 KH2.out (by omega), KG4.out, HM4.out, ?_, (O2.out.chg hch4 (fun b hb _ => by have := hb.1; omega)).mono (fun b hb _ => hb.1), D2.out, bl_chg hb2 hch4 (fun b hb => by omega)⟩
            have hu0 : u.d.used = true := by rw [HU.out]; simp only [DBox.used, LBox.d, bne_iff_ne]; exact HS.out
            have hut : u.d.tag = z.tag := by rw [HU.out]; rfl
            have hfr := fresh_tag OK.out.boxes.1.2 H2.out (by rw [h4.out]; exact hu0)
            rw [h4.out] at hfr
            have := htm.out.used' hu0 hfr
            rw [hut] at this
            rw [List.take_succ_eq_append_getElem H2.out, h4.out]
            have hl : (h.d.boxes.take k).length = k := by simp; omega
            rw [hl] at this
            exact this
          case measure => simp [intOf]; omega)
    · have hff : h.fifo.length ≤ 16 := by have := OK.out.bd.nq; have := OK.out.bd.ff1; simp only [LHost.d, List.length_map] at *; omega
      have hqq : h.queue.length ≤ 32 := by have := OK.out.bd.ne; have := OK.out.bd.ev1; simp only [LHost.d, List.length_map] at *; omega
      have hke : k = h.boxes.length := by omega
      go_wp2_with fail
      clear d0 d1 d2 d3 d4 d5 d6 d7 d8 d9 df
      obtain ⟨d0, d1, d2, d3, d4, d5, d6, d7, d8, d9, df⟩ := ten HH.out
      obtain ⟨c0, c1, c2, c3, c4, c5, c6, c7, c8, c9, c10, c11, c12, cf⟩ := thirteen HG.out
      have KE : Hid _ := hke
      clear hke
      go_region
      obtain ⟨y1, hy1⟩ : ∃ y1 : LHost, y1 = { y with cfg := h.cfg, fifo := [], qA := none, qc := 0, queue := [], eA := none, ec := 0 } := ⟨_, rfl⟩
      have HY1 : Hid _ := hy1
      have hyc : y.cfg = h.cfg := by have := congrArg DHost.cfg hd.out; exact this
      change Exit.then _ _ _ _ ((set4r wr g h).drew)
      have Q1 : (set4r wr g h).drew.heap[g]? = some (.cells (sideCells y1 m) 116 (0, 0)) := by rw [hy1, ← hyc]; exact set4r_heap y (by rw [hyc]) HG.out
      have Q2 : Chg (fun b => b = g) wr (set4r wr g h).drew := (set4r_chg wr g h).drew
      generalize (set4r wr g h).drew = W2 at Q1 Q2 ⊢
      have O1 := ho.out.chg Q2 (fun b hb _ => hb.2.1)
      have HS1 : Hid (SideR (fun b => v.heap.size ≤ b ∧ b ≠ w.heap.size) W2 g m y1) := by
        refine ⟨Q1, ?_, ⟨D, (HM.out.chg Q2 (fun e => hgm e.symm)).tight, ?_⟩, ⟨hvg, by omega⟩, ⟨hvm, by omega⟩⟩
        · rw [hy1]
          exact ⟨O1.f.mono (fun b hb _ => ⟨hb.1, hb.2.2.2⟩), O1.b.mono (fun b hb _ => ⟨hb.1, hb.2.2.2⟩), Row.nil (own_nil _ _ _ _) (fun g h => by simp [Value.ownBlock] at h), Row.nil (own_nil _ _ _ _) (fun g h => by simp [Value.ownBlock] at h)⟩
        · have h1 := htm.out
          have h2 : y1.d.boxes = y.d.boxes := by rw [hy1]; rfl
          have h3 : y.d.boxes = h.d.boxes.take k := congrArg (fun d => d.boxes) hd.out
          rw [h2, h3]; exact h1
      have D0 : Hid (y1.d = { h.d with boxes := h.d.boxes.take h.boxes.length, fifo := h.d.fifo.take 0, queue := h.d.queue.take 0 }) := by
        have h1 : y1.d = { y.d with cfg := h.cfg, fifo := [], queue := [] } := by rw [hy1]; simp [LHost.d]
        rw [h1, hd.out, KE.out]
        rfl
      have KH2 : Hid _ := heap_chg Q2 HH.out (by omega)
      have hb2 : Below v.heap.size v W2 := bl_chg hb Q2 (fun i hi => by omega)
      clear d0 d1 d2 d3 d4 d5 d6 d7 d8 d9 df c0 c1 c2 c3 c4 c5 c6 c7 c8 c9 c10 c11 c12 cf hy1 hyc Q1 Q2 O1 HG HM HH htm ho hd hb hyl zgr zhr
      obtain ⟨d0, d1, d2, d3, d4, d5, d6, d7, d8, d9, df⟩ := ten KH2.out
      go_wp2_with fail
      clear d0 d1 d2 d3 d4 d5 d6 d7 d8 d9 df
      go_loopw [89] (fun i wr => ∃ (k : Nat) (y : LHost), k ≤ h.fifo.length ∧ i = .int .i64 k ∧ Hid (SideR (fun b => v.heap.size ≤ b ∧ b ≠ w.heap.size) wr g m y) ∧ Hid (y.d = { h.d with boxes := h.d.boxes.take h.boxes.length, fifo := h.d.fifo.take k, queue := h.d.queue.take 0 }) ∧ wr.heap[w.heap.size]? = some (.cells (hostCells h) 37 (0, 0)) ∧ Below v.heap.size v wr) (fun i _ => h.fifo.length - (intOf i).toNat)
      case atStart => exact ⟨0, y1, by omega, rfl, HS1.out, D0.out, KH2.out, hb2⟩
      case round =>
        clear HS1 D0 KH2 hb2 HY1
        obtain ⟨k, y, hk, rfl, HS, hd, hh, hb⟩ := hrel
        have HH : Hid _ := hh
        have hyc : Hid (y.cfg = h.cfg) := by have := congrArg DHost.cfg hd.out; exact this
        have zhr := lt_of_heap hh
        have hyl : y.fifo.length = k := by have := congrArg (fun d => d.fifo.length) hd.out; simp [LHost.d] at this; omega
        have HYL : Hid _ := hyl
        have hym : y.fifo.length ≤ 32 := by omega
        clear hh hyl
        by_cases hlt : k < h.fifo.length
        · have RB := (R.out wr hb).q
          obtain ⟨gb, o, hA, hgb, ⟨e0, e1, e2, e3, e4⟩⟩ := frameAt RB.1 k hlt
          rw [hA]
          obtain ⟨z, hz⟩ : ∃ z, z = h.fifo[k] := ⟨_, rfl⟩
          have HF : Hid (FrameR p wr z) := by rw [hz]; exact RB.2 _ (List.getElem_mem hlt)
          have HD : z.data.length ≤ 8 := by rw [hz]; exact OK.out.bd.qd _ (List.mem_map_of_mem (List.getElem_mem hlt))
          rw [← hz] at e0 e1 e2 e3 e4
          have HZ : Hid _ := hz
          have hlim : (k : Int) < y.cfg.fifo := by rw [hyc.out]; have := OK.out.nq; simp only [LHost.d, List.length_map] at this; omega
          have hl1 : y.cfg.fifo ≤ 100 := by rw [hyc.out]; have := OK.out.bd.ff1; simp only [LHost.d] at this; omega
          have zv2 := hb.size
          clear hz hA RB
          go_wp2_with fail
          obtain ⟨WB, eB⟩ : ∃ W, W = wr.alloc (.cells #[.bool z.ext, .int .u32 z.id, .bool z.rtr, .int .i64 z.dlc, .slice z.A z.data.length z.cap] 49) := ⟨_, rfl⟩
          rw [← eB]
          have gB : Below wr.heap.size wr WB := by rw [eB]; exact (by repeat first | with_reducible exact Below.refl _ _ | with_reducible assumption | with_reducible refine bl_alloc ?_ _ | with_reducible refine bl_drewN ?_ _ | with_reducible refine Below.drew ?_ | (refine bl_set ?_ (by simp <;> omega) _))
          have zB : Hid (WB.heap.size = wr.heap.size + 1) := by rw [eB]; simp [Hid]
          have kB : WB.heap[wr.heap.size]? = some (.cells #[.bool z.ext, .int .u32 z.id, .bool z.rtr, .int .i64 z.dlc, .slice z.A z.data.length z.cap] 49 (0, 0)) := by rw [eB]; exact heap_new _ _ rfl
          have zlt : wr.heap.size < WB.heap.size := by rw [zB.out]; omega
          clear eB e0 e1 e2 e3 e4
          have HFB : Hid _ := HF.out.below gB
          obtain ⟨d0, d1, d2, d3, d4, df⟩ := five kB
          have hS : Hid (∀ W, Chg (fun i => i ≠ wr.heap.size) WB W → W.cell? ⟨wr.heap.size, 0, none⟩ = some (.bool z.ext) ∧ W.cell? ⟨wr.heap.size, 1, none⟩ = some (.int .u32 z.id) ∧ W.cell? ⟨wr.heap.size, 2, none⟩ = some (.bool z.rtr) ∧ W.cell? ⟨wr.heap.size, 3, none⟩ = some (.int .i64 z.dlc) ∧ W.cell? ⟨wr.heap.size, 4, none⟩ = some (.slice z.A z.data.length z.cap) ∧ Chg (fun i => i ≠ wr.heap.size) WB W) := fun W hW =>
            ⟨(hW.cell (by simp; omega) (by simp)).trans d0, (hW.cell (by simp; omega) (by simp)).trans d1, (hW.cell (by simp; omega) (by simp)).trans d2, (hW.cell (by simp; omega) (by simp)).trans d3, (hW.cell (by simp; omega) (by simp)).trans d4, hW⟩
          have H0 : Hid (SideR (fun b => (v.heap.size ≤ b ∧ b ≠ w.heap.size) ∧ b ≠ wr.heap.size) WB g m y) := (HS.out.mono (fun i hi hl => ⟨hi, by omega⟩)).below gB
          have hbB : Hid (Below v.heap.size v WB) := bl_then hb gB
          have KHB : Hid _ := heap_below gB HH.out
          have hlo : Hid (∀ i, (Value.slice y.qA y.fifo.length y.qc).ownBlock = some i → (v.heap.size ≤ i ∧ i ≠ w.heap.size) ∧ i ≠ wr.heap.size) := fun i hi => H0.out.own.q.at_ i hi
          have zgb := lt_of_heap H0.out.blk
          have hgw : g ≠ wr.heap.size := H0.out.gB.2
          clear kB d0 d1 d2 d3 d4 df hb
          go_region_held3 (fun W => W.cell? ⟨wr.heap.size, 0, none⟩ = some (.bool z.ext) ∧ W.cell? ⟨wr.heap.size, 1, none⟩ = some (.int .u32 z.id) ∧ W.cell? ⟨wr.heap.size, 2, none⟩ = some (.bool z.rtr) ∧ W.cell? ⟨wr.heap.size, 3, none⟩ = some (.int .i64 z.dlc) ∧ W.cell? ⟨wr.heap.size, 4, none⟩ = some (.slice z.A z.data.length z.cap) ∧ Chg (fun i => i ≠ wr.heap.size) WB W)
            (exact hS.out _ (by repeat first | with_reducible exact Chg.refl _ _ | with_reducible assumption | with_reducible refine Chg.alloc ?_ _ | with_reducible refine Chg.drewN ?_ _ | with_reducible refine Chg.drew ?_ | (refine Chg.set ?_ (by simp <;> omega) _)))
            (first
              | (go_at_call 82
                 refine (copyFrame_any _ z (by omega) (FrameR.below HFB.out (by exact (by repeat first | with_reducible exact Below.refl _ _ | with_reducible assumption | with_reducible refine bl_alloc ?_ _ | with_reducible refine bl_drewN ?_ _ | with_reducible refine Below.drew ?_ | (refine bl_set ?_ (by simp <;> omega) _))))).mono ?_
                 rintro e w1 ⟨A', c', rfl, R', G', hbb⟩
                 have g1 : Below WB.heap.size WB w1 := bl_then (by exact (by repeat first | with_reducible exact Below.refl _ _ | with_reducible assumption | with_reducible refine bl_alloc ?_ _ | with_reducible refine bl_drewN ?_ _ | with_reducible refine Below.drew ?_ | (refine bl_set ?_ (by simp <;> omega) _))) hbb
                 have hch1 : Chg (fun i => i ≠ wr.heap.size) WB w1 := Chg.of_below g1 _
                 have H1 : Hid _ := H0.out.below g1
                 have zz1 := g1.size
                 have R1 : Hid _ := R'
                 have I1 : Hid (InA (wr.heap.size + 1) w1.heap.size A') := fun a ha => by have h := G' a ha; have := zB.out; simp at h; omega
                 have KH1 : Hid _ := heap_below g1 KHB.out
                 have hb1 : Hid (Below v.heap.size v w1) := bl_then hbB.out g1
                 clear R' G' hbb g1)
              | (go_at_call 90
                 refine (pushF_yes _ g 7 (sideCells y m) 116 (by decide) (by decide) y.cfg.fifo y.qA y.qc y.fifo ⟨z.ext, z.id, z.rtr, z.dlc, A', c', z.data⟩ (fun b => (v.heap.size ≤ b ∧ b ≠ w.heap.size) ∧ b ≠ wr.heap.size) ?_ (by omega) (by omega) (by omega) ?_ rfl rfl (by have := HYL.out; omega) ?_ ?_ ?_).mono ?_
                 exact fun i hi => (by have hi : w1.heap.size ≤ i := (by simpa using hi); omega)
                 exact heap_below (by exact (by repeat first | with_reducible exact Below.refl _ _ | with_reducible assumption | with_reducible refine bl_alloc ?_ _ | with_reducible refine bl_drewN ?_ _ | with_reducible refine Below.drew ?_ | (refine bl_set ?_ (by simp <;> omega) _))) H1.out.blk
                 exact H1.out.own.q.below (by exact (by repeat first | with_reducible exact Below.refl _ _ | with_reducible assumption | with_reducible refine bl_alloc ?_ _ | with_reducible refine bl_drewN ?_ _ | with_reducible refine Below.drew ?_ | (refine bl_set ?_ (by simp <;> omega) _)))
                 exact FrameR.below (p := True) (f := ⟨z.ext, z.id, z.rtr, z.dlc, A', c', z.data⟩) R1.out (by exact (by repeat first | with_reducible exact Below.refl _ _ | with_reducible assumption | with_reducible refine bl_alloc ?_ _ | with_reducible refine bl_drewN ?_ _ | with_reducible refine Below.drew ?_ | (refine bl_set ?_ (by simp <;> omega) _)))
                 exact fun a ha => by have h2 := I1.out a ha; exact ⟨⟨⟨by omega, by omega⟩, by omega⟩, by first | omega | (simp; omega)⟩
                 rintro e w2 ⟨r, rfl, hk, hr, hcc⟩
                 have hcd : Chg (fun i => i = g ∨ (Value.slice y.qA y.fifo.length y.qc).ownBlock = some i) w1 w2 := Chg.trans (b := _) (T := fun i => i = g ∨ (Value.slice y.qA y.fifo.length y.qc).ownBlock = some i) (by exact (by repeat first | with_reducible exact Chg.refl _ _ | with_reducible assumption | with_reducible refine Chg.alloc ?_ _ | with_reducible refine Chg.drewN ?_ _ | with_reducible refine Chg.drew ?_ | (refine Chg.set ?_ (by simp <;> omega) _))) hcc (fun _ _ h => h)
                 have hch2 : Chg (fun i => i ≠ wr.heap.size) WB w2 := Chg.trans hch1 hcd (fun i _ hi => by rcases hi with hi | hi; omega; exact (hlo.out i hi).2)
                 have HK : Hid _ := hk
                 have HR : Hid _ := hr
                 have HCD : Hid _ := hcd
                 clear hk hr hcc hcd))
          clear hS
          go_wp2_with fail
          go_roundw
          case rel =>
            refine ⟨k + 1, { y with fifo := y.fifo ++ [⟨z.ext, z.id, z.rtr, z.dlc, A', c', z.data⟩], qA := r.1, qc := r.2 }, by omega, by go_num, ?_, ?_, ?_, ?_⟩
            · have hS2 : SideR (fun b => (v.heap.size ≤ b ∧ b ≠ w.heap.size) ∧ b ≠ wr.heap.size) w2 g m { y with fifo := y.fifo ++ [⟨z.ext, z.id, z.rtr, z.dlc, A', c', z.data⟩], qA := r.1, qc := r.2 } := by
                obtain ⟨D, h1, h2⟩ := H1.out.map
                refine ⟨?_, H1.out.own.pushedF H1.out.noRow HCD.out HR.out, ⟨D, h1.chg HCD.out (fun hi => ?_), h2⟩, H1.out.gB, H1.out.mB⟩
                · rw [HK.out]; simp [sideCells]
                · rcases hi with hi | hi
                  · exact H1.out.map_ne hi
                  · obtain ⟨cs, hc⟩ := own_type H1.out.own.q.own hi
                    exact ty_map h1 _ ⟨_, _, hc⟩
              exact hS2.mono (fun i hi _ => hi.1)
            · have h1 : LHost.d { y with fifo := y.fifo ++ [⟨z.ext, z.id, z.rtr, z.dlc, A', c', z.data⟩], qA := r.1, qc := r.2 } = { y.d with fifo := y.d.fifo ++ [z.d] } := by simp [LHost.d, LFrame.d, LEvent.d]
              have h2 : k < h.d.fifo.length := by simpa [LHost.d] using hlt
              have h4 : h.d.fifo[k] = z.d := by simp only [LHost.d, List.getElem_map]; rw [← HZ.out]
              rw [h1, hd.out]
              show _ = _
              rw [List.take_succ_eq_append_getElem h2, h4]
            · exact heap_chg HCD.out KH1.out (fun hi => by rcases hi with hi | hi; exact H1.out.gB.1.2 hi.symm; exact (hlo.out _ hi).1.2 rfl)
            · exact bl_chg hb1.out HCD.out (fun i hi => by rcases hi with hi | hi; (have := H1.out.gB; omega); exact (hlo.out i hi).1.1)
          case measure => simp [intOf]; omega
        · have hke : k = h.fifo.length := by omega
          have D1 : Hid (y.d = { h.d with boxes := h.d.boxes.take h.boxes.length, fifo := h.d.fifo.take h.fifo.length, queue := h.d.queue.take 0 }) := by have := hd.out; rw [hke] at this; exact this
          clear hke
          obtain ⟨d0, d1, d2, d3, d4, d5, d6, d7, d8, d9, df⟩ := ten HH.out
          go_wp2_with fail
          clear d0 d1 d2 d3 d4 d5 d6 d7 d8 d9 df
          go_loopw [103] (fun i wr => ∃ (k : Nat) (y : LHost), k ≤ h.queue.length ∧ i = .int .i64 k ∧ Hid (SideR (fun b => v.heap.size ≤ b ∧ b ≠ w.heap.size) wr g m y) ∧ Hid (y.d = { h.d with boxes := h.d.boxes.take h.boxes.length, fifo := h.d.fifo.take h.fifo.length, queue := h.d.queue.take k }) ∧ wr.heap[w.heap.size]? = some (.cells (hostCells h) 37 (0, 0)) ∧ Below v.heap.size v wr) (fun i _ => h.queue.length - (intOf i).toNat)
          case atStart => exact ⟨0, y, by omega, rfl, HS.out, D1.out, HH.out, hb⟩
          case round =>
            clear HS D1 HH hb hd hyc HYL hym hk zhr
            obtain ⟨k, y, hk, rfl, HS, hd, hh, hb⟩ := hrel
            have HH : Hid _ := hh
            have hyc : Hid (y.cfg = h.cfg) := by have := congrArg DHost.cfg hd.out; exact this
            have zhr := lt_of_heap hh
            have hyl : y.queue.length = k := by have := congrArg (fun d => d.queue.length) hd.out; simp [LHost.d] at this; omega
            have HYL : Hid _ := hyl
            have hym : y.queue.length ≤ 32 := by omega
            clear hh hyl
            by_cases hlt : k < h.queue.length
            · have RB := (R.out wr hb).e
              obtain ⟨gb, o, hA, hgb, ⟨e0, e1, e2, e3, e4, e5, e6, e7⟩⟩ := eventAt RB.1 k hlt
              rw [hA]
              obtain ⟨z, hz⟩ : ∃ z, z = h.queue[k] := ⟨_, rfl⟩
              have HF : Hid (FrameR p wr z.f) := by rw [hz]; exact RB.2 _ (List.getElem_mem hlt)
              have HD : z.f.data.length ≤ 8 := by rw [hz]; exact OK.out.bd.ed _ (List.mem_map_of_mem (List.getElem_mem hlt))
              rw [← hz] at e0 e1 e2 e3 e4 e5 e6 e7
              have HZ : Hid _ := hz
              have hlim : (k : Int) < y.cfg.events := by rw [hyc.out]; have := OK.out.ne; simp only [LHost.d, List.length_map] at this; omega
              have hl1 : y.cfg.events ≤ 100 := by rw [hyc.out]; have := OK.out.bd.ev1; simp only [LHost.d] at this; omega
              have zv2 := hb.size
              clear hz hA RB
              go_wp2_with fail
              refine (copyFrame_any _ z.f (by omega) (HF.out.below (by exact (by repeat first | with_reducible exact Below.refl _ _ | with_reducible assumption | with_reducible refine bl_alloc ?_ _ | with_reducible refine bl_drewN ?_ _ | with_reducible refine Below.drew ?_ | (refine bl_set ?_ (by simp <;> omega) _))))).mono ?_; rintro e wC ⟨A', c', rfl, R', G', hbb⟩
              have g1 : Below wr.heap.size wr wC := bl_then (by exact (by repeat first | with_reducible exact Below.refl _ _ | with_reducible assumption | with_reducible refine bl_alloc ?_ _ | with_reducible refine bl_drewN ?_ _ | with_reducible refine Below.drew ?_ | (refine bl_set ?_ (by simp <;> omega) _))) hbb
              have kb := heap_below hbb (heap_new (W := wr) _ _ rfl)
              obtain ⟨e0, e1, e2, e3, e4, e5, e6, e7, ef⟩ := eight kb
              have zC := lt_of_heap kb
              have KB : Hid _ := kb
              have R1 : Hid _ := R'
              have I1 : Hid (InA (wr.heap.size + 1) wC.heap.size A') := fun a ha => by have := G' a ha; simp at this; omega
              clear kb R' G' hbb
              go_wp2_with fail
              clear e0 e1 e2 e3 e4 e5 e6 e7 ef
              have kB := set5_heap ⟨z.f.ext, z.f.id, z.f.rtr, z.f.dlc, A', c', z.f.data⟩ KB.out
              have cB := set5_chg wC wr.heap.size ⟨z.f.ext, z.f.id, z.f.rtr, z.f.dlc, A', c', z.f.data⟩
              change Code.wp _ _ _ _ (set5 wC wr.heap.size ⟨z.f.ext, z.f.id, z.f.rtr, z.f.dlc, A', c', z.f.data⟩)
              generalize set5 wC wr.heap.size ⟨z.f.ext, z.f.id, z.f.rtr, z.f.dlc, A', c', z.f.data⟩ = WB at kB cB ⊢
              dsimp only at kB
              have gB : Below wr.heap.size wr WB := bl_chg g1 cB (fun i hi => by omega)
              have zlt := lt_of_heap kB
              have zBC := cB.size
              have R2 : Hid (BytesR True WB A' z.f.data) := Cells.chg R1.out cB (fun a ha => by have := I1.out a ha; omega)
              clear cB g1 zC
              obtain ⟨d0, d1, d2, d3, d4, d5, d6, d7, df⟩ := eight kB
              have hS : Hid (∀ W, Chg (fun i => i ≠ wr.heap.size) WB W → W.cell? ⟨wr.heap.size, 0, none⟩ = some (.int .i64 z.kind) ∧ W.cell? ⟨wr.heap.size, 1, none⟩ = some (.int .i64 z.a) ∧ W.cell? ⟨wr.heap.size, 2, none⟩ = some (.int .i64 z.b) ∧ W.cell? ⟨wr.heap.size, 3, none⟩ = some (.bool z.f.ext) ∧ W.cell? ⟨wr.heap.size, 4, none⟩ = some (.int .u32 z.f.id) ∧ W.cell? ⟨wr.heap.size, 5, none⟩ = some (.bool z.f.rtr) ∧ W.cell? ⟨wr.heap.size, 6, none⟩ = some (.int .i64 z.f.dlc) ∧ W.cell? ⟨wr.heap.size, 7, none⟩ = some (.slice A' z.f.data.length c') ∧ Chg (fun i => i ≠ wr.heap.size) WB W) := fun W hW =>
                ⟨(hW.cell (by simp; omega) (by simp)).trans d0, (hW.cell (by simp; omega) (by simp)).trans d1, (hW.cell (by simp; omega) (by simp)).trans d2, (hW.cell (by simp; omega) (by simp)).trans d3, (hW.cell (by simp; omega) (by simp)).trans d4, (hW.cell (by simp; omega) (by simp)).trans d5, (hW.cell (by simp; omega) (by simp)).trans d6, (hW.cell (by simp; omega) (by simp)).trans d7, hW⟩
              have H0 : Hid (SideR (fun b => (v.heap.size ≤ b ∧ b ≠ w.heap.size) ∧ b ≠ wr.heap.size) WB g m y) := (HS.out.mono (fun i hi hl => ⟨hi, by omega⟩)).below gB
              have hbB : Hid (Below v.heap.size v WB) := bl_then hb gB
              have KHB : Hid _ := heap_below gB HH.out
              have hlo : Hid (∀ i, (Value.slice y.eA y.queue.length y.ec).ownBlock = some i → (v.heap.size ≤ i ∧ i ≠ w.heap.size) ∧ i ≠ wr.heap.size) := fun i hi => H0.out.own.e.at_ i hi
              have zgb := lt_of_heap H0.out.blk
              have hgw : g ≠ wr.heap.size := H0.out.gB.2
              obtain ⟨u, hu⟩ : ∃ u : LEvent, u = ⟨z.kind, z.a, z.b, ⟨z.f.ext, z.f.id, z.f.rtr, z.f.dlc, A', c', z.f.data⟩⟩ := ⟨_, rfl⟩
              have HU : Hid _ := hu
              clear hu
              clear kB d0 d1 d2 d3 d4 d5 d6 d7 df hb
              go_region_held3 (fun W => W.cell? ⟨wr.heap.size, 0, none⟩ = some (.int .i64 z.kind) ∧ W.cell? ⟨wr.heap.size, 1, none⟩ = some (.int .i64 z.a) ∧ W.cell? ⟨wr.heap.size, 2, none⟩ = some (.int .i64 z.b) ∧ W.cell? ⟨wr.heap.size, 3, none⟩ = some (.bool z.f.ext) ∧ W.cell? ⟨wr.heap.size, 4, none⟩ = some (.int .u32 z.f.id) ∧ W.cell? ⟨wr.heap.size, 5, none⟩ = some (.bool z.f.rtr) ∧ W.cell? ⟨wr.heap.size, 6, none⟩ = some (.int .i64 z.f.dlc) ∧ W.cell? ⟨wr.heap.size, 7, none⟩ = some (.slice A' z.f.data.length c') ∧ Chg (fun i => i ≠ wr.heap.size) WB W)
                (exact hS.out _ (by repeat first | with_reducible exact Chg.refl _ _ | with_reducible assumption | with_reducible refine Chg.alloc ?_ _ | with_reducible refine Chg.drewN ?_ _ | with_reducible refine Chg.drew ?_ | (refine Chg.set ?_ (by simp <;> omega) _)))
                ((go_at_call 95
                  refine (pushE_yes _ g 9 (sideCells y m) 116 (by decide) (by decide) y.cfg.events y.eA y.ec y.queue ⟨z.kind, z.a, z.b, ⟨z.f.ext, z.f.id, z.f.rtr, z.f.dlc, A', c', z.f.data⟩⟩ (fun b => (v.heap.size ≤ b ∧ b ≠ w.heap.size) ∧ b ≠ wr.heap.size) ?_ (by omega) (by omega) (by omega) ?_ rfl rfl (by have := HYL.out; omega) ?_ ?_ ?_).mono ?_
                  exact fun i hi => (by have hi : WB.heap.size ≤ i := (by simpa using hi); omega)
                  exact heap_below (by exact (by repeat first | with_reducible exact Below.refl _ _ | with_reducible assumption | with_reducible refine bl_alloc ?_ _ | with_reducible refine bl_drewN ?_ _ | with_reducible refine Below.drew ?_ | (refine bl_set ?_ (by simp <;> omega) _))) H0.out.blk
                  exact H0.out.own.e.below (by exact (by repeat first | with_reducible exact Below.refl _ _ | with_reducible assumption | with_reducible refine bl_alloc ?_ _ | with_reducible refine bl_drewN ?_ _ | with_reducible refine Below.drew ?_ | (refine bl_set ?_ (by simp <;> omega) _)))
                  exact FrameR.below (p := True) (f := ⟨z.f.ext, z.f.id, z.f.rtr, z.f.dlc, A', c', z.f.data⟩) R2.out (by exact (by repeat first | with_reducible exact Below.refl _ _ | with_reducible assumption | with_reducible refine bl_alloc ?_ _ | with_reducible refine bl_drewN ?_ _ | with_reducible refine Below.drew ?_ | (refine bl_set ?_ (by simp <;> omega) _)))
                  exact fun a ha => by have h2 := I1.out a ha; exact ⟨⟨⟨by omega, by omega⟩, by omega⟩, by first | omega | (simp; omega)⟩
                  rintro e w2 ⟨r, rfl, hk, hr, hcc⟩
                  have hcd : Chg (fun i => i = g ∨ (Value.slice y.eA y.queue.length y.ec).ownBlock = some i) WB w2 := Chg.trans (b := _) (T := fun i => i = g ∨ (Value.slice y.eA y.queue.length y.ec).ownBlock = some i) (by exact (by repeat first | with_reducible exact Chg.refl _ _ | with_reducible assumption | with_reducible refine Chg.alloc ?_ _ | with_reducible refine Chg.drewN ?_ _ | with_reducible refine Chg.drew ?_ | (refine Chg.set ?_ (by simp <;> omega) _))) hcc (fun _ _ h => h)
                  have hch2 : Chg (fun i => i ≠ wr.heap.size) WB w2 := hcd.mono (fun i _ hi => by rcases hi with hi | hi; omega; exact (hlo.out i hi).2)
                  have HK : Hid _ := hk
                  have HR : Hid _ := hr
                  have HCD : Hid _ := hcd
                  clear hk hr hcc hcd))
              clear hS
              go_wp2_with fail
              go_roundw
              case rel =>
                refine ⟨k + 1, { y with queue := y.queue ++ [⟨z.kind, z.a, z.b, ⟨z.f.ext, z.f.id, z.f.rtr, z.f.dlc, A', c', z.f.data⟩⟩], eA := r.1, ec := r.2 }, by omega, by go_num, ?_, ?_, ?_, ?_⟩
                · have hS2 : SideR (fun b => (v.heap.size ≤ b ∧ b ≠ w.heap.size) ∧ b ≠ wr.heap.size) w2 g m { y with queue := y.queue ++ [⟨z.kind, z.a, z.b, ⟨z.f.ext, z.f.id, z.f.rtr, z.f.dlc, A', c', z.f.data⟩⟩], eA := r.1, ec := r.2 } := by
                    obtain ⟨D, h1, h2⟩ := H0.out.map
                    refine ⟨?_, H0.out.own.pushedE H0.out.noRow HCD.out HR.out, ⟨D, h1.chg HCD.out (fun hi => ?_), h2⟩, H0.out.gB, H0.out.mB⟩
                    · rw [HK.out]; simp [sideCells]
                    · rcases hi with hi | hi
                      · exact H0.out.map_ne hi
                      · obtain ⟨cs, hc⟩ := own_type H0.out.own.e.own hi
                        exact ty_map h1 _ ⟨_, _, hc⟩
                  exact hS2.mono (fun i hi _ => hi.1)
                · have h1 : LHost.d { y with queue := y.queue ++ [⟨z.kind, z.a, z.b, ⟨z.f.ext, z.f.id, z.f.rtr, z.f.dlc, A', c', z.f.data⟩⟩], eA := r.1, ec := r.2 } = { y.d with queue := y.d.queue ++ [z.d] } := by simp [LHost.d, LFrame.d, LEvent.d]
                  have h2 : k < h.d.queue.length := by simpa [LHost.d] using hlt
                  have h4 : h.d.queue[k] = z.d := by simp only [LHost.d, List.getElem_map]; rw [← HZ.out]
                  rw [h1, hd.out]
                  show _ = _
                  rw [List.take_succ_eq_append_getElem h2, h4]
                · exact heap_chg HCD.out KHB.out (fun hi => by rcases hi with hi | hi; exact H0.out.gB.1.2 hi.symm; exact (hlo.out _ hi).1.2 rfl)
                · exact bl_chg hbB.out HCD.out (fun i hi => by rcases hi with hi | hi; (have := H0.out.gB; omega); exact (hlo.out i hi).1.1)
              case measure => simp [intOf]; omega
            · have hke : k = h.queue.length := by omega
              have D1 : Hid (y.d = { h.d with boxes := h.d.boxes.take h.boxes.length, fifo := h.d.fifo.take h.fifo.length, queue := h.d.queue.take h.queue.length }) := by have := hd.out; rw [hke] at this; exact this
              clear hke
              go_wp2_with fail
              go_end0
              refine Ret.mk y rfl ⟨?_, HS.out.mono (fun i hi _ => hi.1), hb⟩
              rw [D1.out, List.take_of_length_le (by simp [LHost.d]), List.take_of_length_le (by simp [LHost.d]), List.take_of_length_le (by simp [LHost.d])]
end Go.Proofs.Ytcfhjmflnochcaa
