/-
  The host as it is worked on: how it lies in memory; the bounded lists.
-/
import Derived.Test.YtcfhjmflnochcaaMap
import Derived.Test.YtcfhjmflnochcaaRelS
import Derived.Deep.RegionLaw
set_option linter.unusedVariables false
set_option linter.unusedSimpArgs false
namespace Go.Proofs.Ytcfhjmflnochcaa
open Go.RowKit
variable {p q : Prop}

theorem Row.chgTy {α : Type} {enc : α → List Value} {fr : α → LFrame} {e : TypeId} {size : Nat} {B : Nat → Prop} {w w' : World} {A : Option Addr} {c : Nat} {ys : List α} (h : Row enc fr e size B w A c ys) {S : Nat → Prop} (k : Chg S w w') (hS : ∀ b, S b → ¬ Ty w e b ∧ ¬ Ty w 5 b) : Row enc fr e size B w' A c ys :=
  ⟨own_chg h.own k fun g hg hs => by
      obtain ⟨cs, hc⟩ := own_type h.own hg
      exact (hS g hs).1 ⟨_, _, hc⟩,
   h.at_, fun z hz => Cells.chgTy (h.R z hz) k fun b hb => (hS b hb).2, fun z hz a ha => ⟨(h.I z hz a ha).1, Nat.lt_of_lt_of_le (h.I z hz a ha).2 k.size⟩⟩
theorem ty_no {w : World} {b : Nat} {cs : Array Value} {e1 e2 : TypeId} {fr : Nat × Nat} (h : w.heap[b]? = some (.cells cs e1 fr)) (hne : e1 ≠ e2) : ¬ Ty w e2 b := fun k => hne (Ty.one ⟨_, _, h⟩ k)
theorem ty_own {w : World} {base n : Nat} {e1 e2 : TypeId} {size : Nat} {v : Value} {xs : List Value} (h : w.ownsRow base e1 size v n xs) (hne : e1 ≠ e2) {b : Nat} (hb : v.ownBlock = some b) : ¬ Ty w e2 b := by
  obtain ⟨cs, hc⟩ := own_type h hb
  exact ty_no hc hne
theorem ty_map {w : World} {b n : Nat} {D : DataW Unit} (h : MapAt w b n D) (e : TypeId) : ¬ Ty w e b := by
  rintro ⟨all, fr, hc⟩
  obtain ⟨es, cl, hm⟩ := h.obj
  rw [hc] at hm
  injection hm with hm
  cases hm
/-- The tags' map of the boxes. -/
structure TM (D : DataW Unit) (bs : List DBox) : Prop where
  tidy : Maps.Tidy D
  has : ∀ t, Maps.has D (.int .i64 t) = bs.any (fun b => b.used && b.tag == t)
  size : Maps.size D = bs.countP DBox.used
  at_ : ∀ i (hi : i < bs.length), bs[i].used = true → ∀ z, D.atKey (.int .i64 bs[i].tag) z = .lit (.int .i64 i)

def sideCells (x : LHost) (m : Nat) : Array Value := #[.int .i64 x.cfg.boxes, .int .i64 x.cfg.fifo, .int .i64 x.cfg.policy, .int .i64 x.cfg.events, .slice x.fA x.filters.length x.fc, .slice x.bA x.boxes.length x.bc, .map (some m), .int .i64 x.cfg.fifo, .slice x.qA x.fifo.length x.qc, .int .i64 x.cfg.events, .slice x.eA x.queue.length x.ec, .int .i64 x.lost, .int .i64 x.stamp]
/-- Block g is a side that reads as x; what it owns lies in blocks of B; m is its map. -/
structure SideR (B : Nat → Prop) (w : World) (g m : Nat) (x : LHost) : Prop where
  blk : w.heap[g]? = some (.cells (sideCells x m) 116 (0, 0))
  own : OwnHost B w x
  map : ∃ D, MapAt w m (Maps.size D) D ∧ TM D x.d.boxes
  gB : B g
  mB : B m
theorem thirteen {w : World} {b : Nat} {a0 a1 a2 a3 a4 a5 a6 a7 a8 a9 a10 a11 a12 : Value} {e : TypeId} (h : w.heap[b]? = some (.cells #[a0, a1, a2, a3, a4, a5, a6, a7, a8, a9, a10, a11, a12] e (0, 0))) :
    w.cell? ⟨b, 0, none⟩ = some a0 ∧ w.cell? ⟨b, 1, none⟩ = some a1 ∧ w.cell? ⟨b, 2, none⟩ = some a2 ∧ w.cell? ⟨b, 3, none⟩ = some a3 ∧ w.cell? ⟨b, 4, none⟩ = some a4 ∧ w.cell? ⟨b, 5, none⟩ = some a5 ∧ w.cell? ⟨b, 6, none⟩ = some a6 ∧ w.cell? ⟨b, 7, none⟩ = some a7 ∧ w.cell? ⟨b, 8, none⟩ = some a8 ∧ w.cell? ⟨b, 9, none⟩ = some a9 ∧ w.cell? ⟨b, 10, none⟩ = some a10 ∧ w.cell? ⟨b, 11, none⟩ = some a11 ∧ w.cell? ⟨b, 12, none⟩ = some a12 ∧ ∀ i, w.frozen? ⟨b, i, none⟩ = false :=
  ⟨cell_at h 0 _ rfl, cell_at h 1 _ rfl, cell_at h 2 _ rfl, cell_at h 3 _ rfl, cell_at h 4 _ rfl, cell_at h 5 _ rfl, cell_at h 6 _ rfl, cell_at h 7 _ rfl, cell_at h 8 _ rfl, cell_at h 9 _ rfl, cell_at h 10 _ rfl, cell_at h 11 _ rfl, cell_at h 12 _ rfl, frozen_at h⟩

/-- It answers v and P holds of the world. -/
def RetW (v : Value) (P : World → Prop) (e : Ending) (w' : World) : Prop := e = .returned v ∧ P w'

set_option maxRecDepth 100000 in
theorem pushE_no (w : World) (g o : Nat) (lim : Int) (A : Option Addr) (c n : Nat) (y : LEvent) (hl0 : 0 ≤ lim) (hl1 : lim ≤ 100) (hn : n ≤ 4194304)
    (h0 : w.cell? ⟨g, o, none⟩ = some (.int .i64 lim)) (h1 : w.cell? ⟨g, o + 1, none⟩ = some (.slice A n c)) (hf : lim ≤ n) :
    Calls Try.prog 95 #[.pointer (some ⟨g, o, none⟩), .agg #[.int .i64 y.kind, .int .i64 y.a, .int .i64 y.b, .bool y.f.ext, .int .u32 y.f.id, .bool y.f.rtr, .int .i64 y.f.dlc, .slice y.f.A y.f.data.length y.f.cap]] w
      (RetW (.bool false) (fun w' => Below w.heap.size w w')) := by
  have hg := World.block_lt_of_cell? w _ h0
  go_enter Try.func95, Try.ntmps95
  go_wp2_with fail
  have e1 : IntKind.i64.wrap (lim - n) = lim - n := IntWalk.i64_in _ (by omega)
  go_quiet (fail)
  clear e1
  go_wp2_with fail
  go_ret
  exact ⟨rfl, (by repeat first | with_reducible exact Below.refl _ _ | with_reducible assumption | with_reducible refine bl_alloc ?_ _ | with_reducible refine bl_drewN ?_ _ | with_reducible refine Below.drew ?_ | (refine bl_set ?_ (by simp <;> omega) _))⟩

set_option maxHeartbeats 1000000 in
set_option maxRecDepth 100000 in
theorem pushE_yes (w : World) (g o : Nat) (cs : Array Value) (ty : TypeId) (hy1 : ty ≠ 95) (hy2 : ty ≠ 5) (lim : Int) (A : Option Addr) (c : Nat) (ys : List LEvent) (y : LEvent) (B : Nat → Prop) (hB : ∀ i, w.heap.size ≤ i → B i) (hl0 : 0 ≤ lim) (hl1 : lim ≤ 100) (hn : ys.length ≤ 4194304)
    (hb : w.heap[g]? = some (.cells cs ty (0, 0))) (h0 : cs[o]? = some (.int .i64 lim)) (h1 : cs[o + 1]? = some (.slice A ys.length c)) (hf : (ys.length : Int) < lim)
    (hR : Row LEvent.cs LEvent.f 95 8 B w A c ys) (hy : FrameR True w y.f) (hI : ∀ a, y.f.A = some a → B a.block ∧ a.block < w.heap.size) :
    Calls Try.prog 95 #[.pointer (some ⟨g, o, none⟩), .agg #[.int .i64 y.kind, .int .i64 y.a, .int .i64 y.b, .bool y.f.ext, .int .u32 y.f.id, .bool y.f.rtr, .int .i64 y.f.dlc, .slice y.f.A y.f.data.length y.f.cap]] w
      (Ret (fun _ : Option Addr × Nat => .bool true) (fun r w' => w'.heap[g]? = some (.cells (cs.setIfInBounds (o + 1) (.slice r.1 (ys.length + 1) r.2)) ty (0, 0)) ∧ Row LEvent.cs LEvent.f 95 8 B w' r.1 r.2 (ys ++ [y]) ∧ Chg (fun i => i = g ∨ (Value.slice A ys.length c).ownBlock = some i) w w')) := by
  have hg := lt_of_heap hb
  have c0 := cell_at hb o _ h0
  have c1 := cell_at hb (o + 1) _ h1
  have H1 : Hid _ := hb
  have HR : Hid _ := hR
  have HY : Hid _ := hy
  have HI : Hid _ := hI
  have HB : Hid _ := hB
  have hga : Hid ((Value.slice A ys.length c).ownBlock ≠ some g) := fun he => ty_own hR.own (Ne.symm hy1) he ⟨_, _, hb⟩
  have h1H : Hid _ := h1
  clear hb h0 h1 hR hy hI hB
  go_enter Try.func95, Try.ntmps95
  go_wp2_with fail
  have e1 : IntKind.i64.wrap (lim - ys.length) = lim - ys.length := IntWalk.i64_in _ (by omega)
  go_quiet (fail)
  clear e1 c0
  go_wp2_with fail
  obtain ⟨W0, e0⟩ : ∃ W0, W0 = (w.alloc (.cells #[.int .i64 y.kind, .int .i64 y.a, .int .i64 y.b, .bool y.f.ext, .int .u32 y.f.id, .bool y.f.rtr, .int .i64 y.f.dlc, .slice y.f.A y.f.data.length y.f.cap] 95)).drewN nq := ⟨_, rfl⟩
  rw [← e0]
  have b0 : Below w.heap.size w W0 := by rw [e0]; exact (by repeat first | with_reducible exact Below.refl _ _ | with_reducible assumption | with_reducible refine bl_alloc ?_ _ | with_reducible refine bl_drewN ?_ _ | with_reducible refine Below.drew ?_ | (refine bl_set ?_ (by simp <;> omega) _))
  have z0 : W0.heap.size = w.heap.size + 1 := by rw [e0]; simp
  have k0 : W0.heap[w.heap.size]? = some (.cells #[.int .i64 y.kind, .int .i64 y.a, .int .i64 y.b, .bool y.f.ext, .int .u32 y.f.id, .bool y.f.rtr, .int .i64 y.f.dlc, .slice y.f.A y.f.data.length y.f.cap] 95 (0, 0)) := by rw [e0]; exact heap_drewN (heap_new _ _ rfl) _
  have k1 : Hid _ := heap_below b0 H1.out
  have R0 : Hid _ := HR.out.below b0
  have Y0 : Hid _ := HY.out.below b0
  replace c1 := cell_at k1.out (o + 1) _ h1H.out
  obtain ⟨d0, d1, d2, d3, d4, d5, d6, d7, df⟩ := eight k0
  have K0 : Hid _ := k0
  have hlo : Hid (¬ (w.heap.size = g ∨ (Value.slice A ys.length c).ownBlock = some w.heap.size)) := fun he => by rcases he with he | he; omega; (have := own_lt HR.out.own he; omega)
  clear e0 k0
  go_region_law
    ((refine step_app _ rfl (.tmp 21) (.tmp 23) 35 rfl 0 95 _ 8 72 Try.underlying35 infoEvent rfl (by omega) (by omega) _ ys.length _ rfl (by exact own_chg (S := fun _ => False) R0.out.own (by repeat first | with_reducible exact Chg.refl _ _ | with_reducible assumption | with_reducible refine Chg.alloc ?_ _ | with_reducible refine Chg.drewN ?_ _ | with_reducible refine Chg.drew ?_ | (refine Chg.set ?_ (by simp <;> omega) _)) (fun _ _ h => h)) 95 _ 1 1 y.cs rfl (by exact cells_new _ [_, _, _, _, _, _, _, _] _ _ (by first | (simp; done) | omega | (simp; omega))) rfl (one_event _) (by omega) (Nat.zero_le _) ?_
      intro A2 c2 w2 hown2 hgrow hloc
      have hch2 : Chg (fun i => i = g ∨ (Value.slice A ys.length c).ownBlock = some i) W0 w2 := Chg.trans (by exact (by repeat first | with_reducible exact Chg.refl _ _ | with_reducible assumption | with_reducible refine Chg.alloc ?_ _ | with_reducible refine Chg.drewN ?_ _ | with_reducible refine Chg.drew ?_ | (refine Chg.set ?_ (by simp <;> omega) _))) (Chg.grown hgrow (fun g hg _ => .inr hg)) (fun _ _ h => h)
      have hg1 := heap_grown hgrow (heap_old _ k1.out) (fun e => hga.out e.symm)
      have zz1 := lt_of_heap hg1
      have u0 := cell_at hg1 (o + 1) _ h1H.out
      have uf := frozen_at hg1
      have HG : Hid _ := hgrow
      have HL : Hid _ := hloc
      have HW : Hid _ := hown2
      have HG1 : Hid _ := hg1
      clear hgrow hloc hown2 hg1))
  all_goals (
    clear df d0 d1 d2 d3 d4 d5 d6 d7
    go_wp2_with fail
    go_ret
    have HX : Row LEvent.cs LEvent.f 95 8 B w2 A2 c2 (ys ++ [y]) := Row.snoc (hg := HG.out) (hl := HL.out) (hn := HB.out _ (by simp; omega)) (h := by exact R0.out.chg (S := fun _ => False) (by repeat first | with_reducible exact Chg.refl _ _ | with_reducible assumption | with_reducible refine Chg.alloc ?_ _ | with_reducible refine Chg.drewN ?_ _ | with_reducible refine Chg.drew ?_ | (refine Chg.set ?_ (by simp <;> omega) _)) (fun _ _ _ h => h)) (y := y) (ho := HW.out) (hu := by decide) (hR := by exact Cells.chg (S := fun _ => False) Y0.out (by repeat first | with_reducible exact Chg.refl _ _ | with_reducible assumption | with_reducible refine Chg.alloc ?_ _ | with_reducible refine Chg.drewN ?_ _ | with_reducible refine Chg.drew ?_ | (refine Chg.set ?_ (by simp <;> omega) _)) (fun _ _ h => h)) (hI := by exact fun a ha => by have := HI.out a ha; exact ⟨this.1, by simp; omega⟩)
    refine Ret.mk (A2, c2) rfl ⟨heap_set HG1.out rfl, HX.chgTy (S := fun i => i = g) (by repeat first | with_reducible exact Chg.refl _ _ | with_reducible assumption | with_reducible refine Chg.alloc ?_ _ | with_reducible refine Chg.drewN ?_ _ | with_reducible refine Chg.drew ?_ | (refine Chg.set ?_ (by simp <;> omega) _)) (fun b hb => by subst hb; exact ⟨ty_no HG1.out hy1, ty_no HG1.out hy2⟩), ?_⟩
    exact Chg.trans (Chg.of_below b0 _) (b := W0) (T := fun i => i = g ∨ (Value.slice A ys.length c).ownBlock = some i) (by repeat first | with_reducible exact Chg.refl _ _ | with_reducible assumption | with_reducible refine Chg.alloc ?_ _ | with_reducible refine Chg.drewN ?_ _ | with_reducible refine Chg.drew ?_ | (refine Chg.set ?_ (by simp <;> omega) _)) (fun i _ hi => hi))
set_option maxRecDepth 100000 in
theorem pushF_no (w : World) (g o : Nat) (lim : Int) (A : Option Addr) (c n : Nat) (y : LFrame) (hl0 : 0 ≤ lim) (hl1 : lim ≤ 100) (hn : n ≤ 4194304)
    (h0 : w.cell? ⟨g, o, none⟩ = some (.int .i64 lim)) (h1 : w.cell? ⟨g, o + 1, none⟩ = some (.slice A n c)) (hf : lim ≤ n) :
    Calls Try.prog 90 #[.pointer (some ⟨g, o, none⟩), .agg #[.bool y.ext, .int .u32 y.id, .bool y.rtr, .int .i64 y.dlc, .slice y.A y.data.length y.cap]] w
      (RetW (.bool false) (fun w' => Below w.heap.size w w')) := by
  have hg := World.block_lt_of_cell? w _ h0
  go_enter Try.func90, Try.ntmps90
  go_wp2_with fail
  have e1 : IntKind.i64.wrap (lim - n) = lim - n := IntWalk.i64_in _ (by omega)
  go_quiet (fail)
  clear e1
  go_wp2_with fail
  go_ret
  exact ⟨rfl, (by repeat first | with_reducible exact Below.refl _ _ | with_reducible assumption | with_reducible refine bl_alloc ?_ _ | with_reducible refine bl_drewN ?_ _ | with_reducible refine Below.drew ?_ | (refine bl_set ?_ (by simp <;> omega) _))⟩

set_option maxHeartbeats 1000000 in
set_option maxRecDepth 100000 in
theorem pushF_yes (w : World) (g o : Nat) (cs : Array Value) (ty : TypeId) (hy1 : ty ≠ 49) (hy2 : ty ≠ 5) (lim : Int) (A : Option Addr) (c : Nat) (ys : List LFrame) (y : LFrame) (B : Nat → Prop) (hB : ∀ i, w.heap.size ≤ i → B i) (hl0 : 0 ≤ lim) (hl1 : lim ≤ 100) (hn : ys.length ≤ 4194304)
    (hb : w.heap[g]? = some (.cells cs ty (0, 0))) (h0 : cs[o]? = some (.int .i64 lim)) (h1 : cs[o + 1]? = some (.slice A ys.length c)) (hf : (ys.length : Int) < lim)
    (hR : Row LFrame.cs id 49 5 B w A c ys) (hy : FrameR True w y) (hI : ∀ a, y.A = some a → B a.block ∧ a.block < w.heap.size) :
    Calls Try.prog 90 #[.pointer (some ⟨g, o, none⟩), .agg #[.bool y.ext, .int .u32 y.id, .bool y.rtr, .int .i64 y.dlc, .slice y.A y.data.length y.cap]] w
      (Ret (fun _ : Option Addr × Nat => .bool true) (fun r w' => w'.heap[g]? = some (.cells (cs.setIfInBounds (o + 1) (.slice r.1 (ys.length + 1) r.2)) ty (0, 0)) ∧ Row LFrame.cs id 49 5 B w' r.1 r.2 (ys ++ [y]) ∧ Chg (fun i => i = g ∨ (Value.slice A ys.length c).ownBlock = some i) w w')) := by
  have hg := lt_of_heap hb
  have c0 := cell_at hb o _ h0
  have c1 := cell_at hb (o + 1) _ h1
  have H1 : Hid _ := hb
  have HR : Hid _ := hR
  have HY : Hid _ := hy
  have HI : Hid _ := hI
  have HB : Hid _ := hB
  have hga : Hid ((Value.slice A ys.length c).ownBlock ≠ some g) := fun he => ty_own hR.own (Ne.symm hy1) he ⟨_, _, hb⟩
  have h1H : Hid _ := h1
  clear hb h0 h1 hR hy hI hB
  go_enter Try.func90, Try.ntmps90
  go_wp2_with fail
  have e1 : IntKind.i64.wrap (lim - ys.length) = lim - ys.length := IntWalk.i64_in _ (by omega)
  go_quiet (fail)
  clear e1 c0
  go_wp2_with fail
  obtain ⟨W0, e0⟩ : ∃ W0, W0 = (w.alloc (.cells #[.bool y.ext, .int .u32 y.id, .bool y.rtr, .int .i64 y.dlc, .slice y.A y.data.length y.cap] 49)).drewN nq := ⟨_, rfl⟩
  rw [← e0]
  have b0 : Below w.heap.size w W0 := by rw [e0]; exact (by repeat first | with_reducible exact Below.refl _ _ | with_reducible assumption | with_reducible refine bl_alloc ?_ _ | with_reducible refine bl_drewN ?_ _ | with_reducible refine Below.drew ?_ | (refine bl_set ?_ (by simp <;> omega) _))
  have z0 : W0.heap.size = w.heap.size + 1 := by rw [e0]; simp
  have k0 : W0.heap[w.heap.size]? = some (.cells #[.bool y.ext, .int .u32 y.id, .bool y.rtr, .int .i64 y.dlc, .slice y.A y.data.length y.cap] 49 (0, 0)) := by rw [e0]; exact heap_drewN (heap_new _ _ rfl) _
  have k1 : Hid _ := heap_below b0 H1.out
  have R0 : Hid _ := HR.out.below b0
  have Y0 : Hid _ := HY.out.below b0
  replace c1 := cell_at k1.out (o + 1) _ h1H.out
  obtain ⟨d0, d1, d2, d3, d4, df⟩ := five k0
  have K0 : Hid _ := k0
  have hlo : Hid (¬ (w.heap.size = g ∨ (Value.slice A ys.length c).ownBlock = some w.heap.size)) := fun he => by rcases he with he | he; omega; (have := own_lt HR.out.own he; omega)
  clear e0 k0
  go_region_law
    ((refine step_app _ rfl (.tmp 21) (.tmp 23) 34 rfl 0 49 _ 5 48 Try.underlying34 infoFrame rfl (by omega) (by omega) _ ys.length _ rfl (by exact own_chg (S := fun _ => False) R0.out.own (by repeat first | with_reducible exact Chg.refl _ _ | with_reducible assumption | with_reducible refine Chg.alloc ?_ _ | with_reducible refine Chg.drewN ?_ _ | with_reducible refine Chg.drew ?_ | (refine Chg.set ?_ (by simp <;> omega) _)) (fun _ _ h => h)) 49 _ 1 1 y.cs rfl (by exact cells_new _ [_, _, _, _, _] _ _ (by first | (simp; done) | omega | (simp; omega))) rfl (one_frame _) (by omega) (Nat.zero_le _) ?_
      intro A2 c2 w2 hown2 hgrow hloc
      have hch2 : Chg (fun i => i = g ∨ (Value.slice A ys.length c).ownBlock = some i) W0 w2 := Chg.trans (by exact (by repeat first | with_reducible exact Chg.refl _ _ | with_reducible assumption | with_reducible refine Chg.alloc ?_ _ | with_reducible refine Chg.drewN ?_ _ | with_reducible refine Chg.drew ?_ | (refine Chg.set ?_ (by simp <;> omega) _))) (Chg.grown hgrow (fun g hg _ => .inr hg)) (fun _ _ h => h)
      have hg1 := heap_grown hgrow (heap_old _ k1.out) (fun e => hga.out e.symm)
      have zz1 := lt_of_heap hg1
      have u0 := cell_at hg1 (o + 1) _ h1H.out
      have uf := frozen_at hg1
      have HG : Hid _ := hgrow
      have HL : Hid _ := hloc
      have HW : Hid _ := hown2
      have HG1 : Hid _ := hg1
      clear hgrow hloc hown2 hg1))
  all_goals (
    clear df d0 d1 d2 d3 d4
    go_wp2_with fail
    go_ret
    have HX : Row LFrame.cs id 49 5 B w2 A2 c2 (ys ++ [y]) := Row.snoc (hg := HG.out) (hl := HL.out) (hn := HB.out _ (by simp; omega)) (h := by exact R0.out.chg (S := fun _ => False) (by repeat first | with_reducible exact Chg.refl _ _ | with_reducible assumption | with_reducible refine Chg.alloc ?_ _ | with_reducible refine Chg.drewN ?_ _ | with_reducible refine Chg.drew ?_ | (refine Chg.set ?_ (by simp <;> omega) _)) (fun _ _ _ h => h)) (y := y) (ho := HW.out) (hu := by decide) (hR := by exact Cells.chg (S := fun _ => False) Y0.out (by repeat first | with_reducible exact Chg.refl _ _ | with_reducible assumption | with_reducible refine Chg.alloc ?_ _ | with_reducible refine Chg.drewN ?_ _ | with_reducible refine Chg.drew ?_ | (refine Chg.set ?_ (by simp <;> omega) _)) (fun _ _ h => h)) (hI := by exact fun a ha => by have := HI.out a ha; exact ⟨this.1, by simp; omega⟩)
    refine Ret.mk (A2, c2) rfl ⟨heap_set HG1.out rfl, HX.chgTy (S := fun i => i = g) (by repeat first | with_reducible exact Chg.refl _ _ | with_reducible assumption | with_reducible refine Chg.alloc ?_ _ | with_reducible refine Chg.drewN ?_ _ | with_reducible refine Chg.drew ?_ | (refine Chg.set ?_ (by simp <;> omega) _)) (fun b hb => by subst hb; exact ⟨ty_no HG1.out hy1, ty_no HG1.out hy2⟩), ?_⟩
    exact Chg.trans (Chg.of_below b0 _) (b := W0) (T := fun i => i = g ∨ (Value.slice A ys.length c).ownBlock = some i) (by repeat first | with_reducible exact Chg.refl _ _ | with_reducible assumption | with_reducible refine Chg.alloc ?_ _ | with_reducible refine Chg.drewN ?_ _ | with_reducible refine Chg.drew ?_ | (refine Chg.set ?_ (by simp <;> omega) _)) (fun i _ hi => hi))
end Go.Proofs.Ytcfhjmflnochcaa
