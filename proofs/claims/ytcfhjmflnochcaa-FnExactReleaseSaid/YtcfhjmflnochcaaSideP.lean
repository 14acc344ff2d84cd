/-
  The side's telling of an event.
-/
import Derived.Test.YtcfhjmflnochcaaSide
set_option linter.unusedVariables false
set_option linter.unusedSimpArgs false
namespace Go.Proofs.Ytcfhjmflnochcaa
open Go.RowKit
variable {p q : Prop}

/-- What bounds the sizes of a host. -/
structure DHost.Bd (h : DHost) : Prop where
  ev0 : 1 ≤ h.cfg.events
  ev1 : h.cfg.events ≤ 32
  ff0 : 1 ≤ h.cfg.fifo
  ff1 : h.cfg.fifo ≤ 16
  nb : h.boxes.length ≤ 8
  nf : h.filters.length ≤ 16
  nq : (h.fifo.length : Int) ≤ h.cfg.fifo
  ne : (h.queue.length : Int) ≤ h.cfg.events
  l0 : 0 ≤ h.lost
  l1 : h.lost ≤ 100000
  s0 : 0 ≤ h.stamp
  s1 : h.stamp ≤ 1000000
  bd : ∀ b ∈ h.boxes, b.f.data.length ≤ 8
  qd : ∀ f ∈ h.fifo, f.data.length ≤ 8
  ed : ∀ e ∈ h.queue, e.f.data.length ≤ 8
theorem DFrame.Ok.le {f : DFrame} (h : f.Ok) : f.data.length ≤ 8 := by
  have h1 := h.len
  unfold dataLen at h1
  split at h1
  · omega
  · split at h1 <;> omega
theorem DHost.Ok.bd {h : DHost} (H : h.Ok) : h.Bd := by
  obtain ⟨c1, c2, c3, c4, c5, c6, c7⟩ := H.cfg
  have hb := H.nb
  refine ⟨c6, c7, c3, c4, by omega, H.filters.1, H.nq, H.ne, H.l0, H.l1, H.s0, H.s1, fun b hb => ?_, fun f hf => (H.fifo f hf).le, fun e he => ?_⟩
  · have := H.boxes.1.1 b hb
    unfold DBox.Ok at this
    split at this
    · rw [this.2.2]; simp [DFrame.zero]
    · exact this.2.2.2.2.2.2.le
  · rcases (H.queue e he).2.2.2.2.2.2 with h1 | h1
    · rw [h1]; simp [DFrame.zero]
    · exact h1.le
theorem DHost.Bd.post {h : DHost} (H : h.Bd) (k a b : Int) (f : DFrame) (hf : f.data.length ≤ 8) : (h.post k a b f).Bd := by
  obtain ⟨h1, h2, h3, h4, h5, h6, h7, h8, h9, h10, h11, h12, h13, h14, h15⟩ := H
  unfold DHost.post
  split
  · refine ⟨h1, h2, h3, h4, h5, h6, h7, h8, ?_, ?_, h11, h12, h13, h14, h15⟩ <;> dsimp only <;> split <;> omega
  · refine ⟨h1, h2, h3, h4, h5, h6, h7, ?_, h9, h10, h11, h12, h13, h14, fun e he => ?_⟩
    · simp; omega
    · rcases List.mem_append.1 he with he | he
      · exact h15 e he
      · simp at he; subst he; exact hf
theorem LHost.qlen (x : LHost) : x.d.queue.length = x.queue.length := by simp [LHost.d]
theorem LHost.flen (x : LHost) : x.d.fifo.length = x.fifo.length := by simp [LHost.d]

theorem LHost.blen2 (x : LHost) : x.d.boxes.length = x.boxes.length := by simp [LHost.d]
theorem SideR.map_ne {B : Nat → Prop} {w : World} {g m : Nat} {x : LHost} (H : SideR B w g m x) : m ≠ g := fun e => by
  obtain ⟨D, h, _⟩ := H.map
  subst e
  exact ty_map h 116 ⟨_, _, H.blk⟩
theorem SideR.below {B : Nat → Prop} {w w' : World} {g m : Nat} {x : LHost} (H : SideR B w g m x) (k : Below w.heap.size w w') : SideR B w' g m x := by
  obtain ⟨D, h, t⟩ := H.map
  exact ⟨heap_below k H.blk, H.own.below k, ⟨D, h.below k, t⟩, H.gB, H.mB⟩
theorem SideR.chg {B S : Nat → Prop} {w w' : World} {g m : Nat} {x : LHost} (H : SideR B w g m x) (k : Chg S w w') (hs : ∀ i, B i → i < w.heap.size → ¬ S i) : SideR B w' g m x := by
  obtain ⟨D, h, t⟩ := H.map
  exact ⟨heap_chg k H.blk (hs g H.gB (lt_of_heap H.blk)), H.own.chg k hs, ⟨D, h.chg k (hs m H.mB h.lt), t⟩, H.gB, H.mB⟩
/-- The block is none of the rows' or of their bytes. -/
def NoRow (w : World) (b : Nat) : Prop := ¬ Ty w 102 b ∧ ¬ Ty w 98 b ∧ ¬ Ty w 49 b ∧ ¬ Ty w 95 b ∧ ¬ Ty w 5 b
theorem OwnHost.noRow {B S : Nat → Prop} {w w' : World} {x : LHost} (h : OwnHost B w x) (k : Chg S w w') (hS : ∀ b, S b → NoRow w b) : OwnHost B w' x :=
  ⟨h.f.chgTy k fun b hb => ⟨(hS b hb).1, (hS b hb).2.2.2.2⟩, h.b.chgTy k fun b hb => ⟨(hS b hb).2.1, (hS b hb).2.2.2.2⟩, h.q.chgTy k fun b hb => ⟨(hS b hb).2.2.1, (hS b hb).2.2.2.2⟩, h.e.chgTy k fun b hb => ⟨(hS b hb).2.2.2.1, (hS b hb).2.2.2.2⟩⟩
theorem noRow_of {w : World} {b : Nat} {cs : Array Value} {ty : TypeId} {fr : Nat × Nat} (h : w.heap[b]? = some (.cells cs ty fr)) (h1 : ty ≠ 102) (h2 : ty ≠ 98) (h3 : ty ≠ 49) (h4 : ty ≠ 95) (h5 : ty ≠ 5) : NoRow w b :=
  ⟨ty_no h h1, ty_no h h2, ty_no h h3, ty_no h h4, ty_no h h5⟩
theorem noRow_map {w : World} {b n : Nat} {D : DataW Unit} (h : MapAt w b n D) : NoRow w b := ⟨ty_map h _, ty_map h _, ty_map h _, ty_map h _, ty_map h _⟩
theorem OwnHost.pushedE {B : Nat → Prop} {w w' : World} {x : LHost} (h : OwnHost B w x) {g : Nat} (hg : NoRow w g) (k : Chg (fun i => i = g ∨ (Value.slice x.eA x.queue.length x.ec).ownBlock = some i) w w') {A' : Option Addr} {c' : Nat} {es : List LEvent} (hr : Row LEvent.cs LEvent.f 95 8 B w' A' c' es) : OwnHost B w' { x with queue := es, eA := A', ec := c' } :=
  ⟨h.f.chgTy k fun b hb => by rcases hb with rfl | hb; exact ⟨hg.1, hg.2.2.2.2⟩; exact ⟨ty_own h.e.own (by decide) hb, ty_own h.e.own (by decide) hb⟩,
   h.b.chgTy k fun b hb => by rcases hb with rfl | hb; exact ⟨hg.2.1, hg.2.2.2.2⟩; exact ⟨ty_own h.e.own (by decide) hb, ty_own h.e.own (by decide) hb⟩,
   h.q.chgTy k fun b hb => by rcases hb with rfl | hb; exact ⟨hg.2.2.1, hg.2.2.2.2⟩; exact ⟨ty_own h.e.own (by decide) hb, ty_own h.e.own (by decide) hb⟩, hr⟩
theorem OwnHost.pushedF {B : Nat → Prop} {w w' : World} {x : LHost} (h : OwnHost B w x) {g : Nat} (hg : NoRow w g) (k : Chg (fun i => i = g ∨ (Value.slice x.qA x.fifo.length x.qc).ownBlock = some i) w w') {A' : Option Addr} {c' : Nat} {es : List LFrame} (hr : Row LFrame.cs id 49 5 B w' A' c' es) : OwnHost B w' { x with fifo := es, qA := A', qc := c' } :=
  ⟨h.f.chgTy k fun b hb => by rcases hb with rfl | hb; exact ⟨hg.1, hg.2.2.2.2⟩; exact ⟨ty_own h.q.own (by decide) hb, ty_own h.q.own (by decide) hb⟩,
   h.b.chgTy k fun b hb => by rcases hb with rfl | hb; exact ⟨hg.2.1, hg.2.2.2.2⟩; exact ⟨ty_own h.q.own (by decide) hb, ty_own h.q.own (by decide) hb⟩, hr,
   h.e.chgTy k fun b hb => by rcases hb with rfl | hb; exact ⟨hg.2.2.2.1, hg.2.2.2.2⟩; exact ⟨ty_own h.q.own (by decide) hb, ty_own h.q.own (by decide) hb⟩⟩

theorem SideR.noRow {B : Nat → Prop} {w : World} {g m : Nat} {x : LHost} (H : SideR B w g m x) : NoRow w g := noRow_of H.blk (by decide) (by decide) (by decide) (by decide) (by decide)
/-- A store of a number into the side's own block. -/
theorem SideR.put {B : Nat → Prop} {w : World} {g m : Nat} {x : LHost} (H : SideR B w g m x) (j : Nat) (v : Value) (l s : Int) (hv : (sideCells x m).setIfInBounds j v = sideCells { x with lost := l, stamp := s } m) : SideR B (w.setCell ⟨g, j, none⟩ v) g m { x with lost := l, stamp := s } := by
  have hn := H.noRow
  have hm := H.map_ne
  obtain ⟨D, h, t⟩ := H.map
  have hc : Chg (fun i => i = g) w (w.setCell ⟨g, j, none⟩ v) := (by repeat first | with_reducible exact Chg.refl _ _ | with_reducible assumption | with_reducible refine Chg.alloc ?_ _ | with_reducible refine Chg.drewN ?_ _ | with_reducible refine Chg.drew ?_ | (refine Chg.set ?_ (by simp <;> omega) _))
  have ho := H.own.noRow hc (fun b hb => by subst hb; exact hn)
  exact ⟨heap_set H.blk hv, ⟨ho.f, ho.b, ho.q, ho.e⟩, ⟨D, h.chg hc hm, t⟩, H.gB, H.mB⟩

set_option maxHeartbeats 2000000 in
set_option maxRecDepth 100000 in
theorem post_any (w : World) (g m : Nat) (x : LHost) (B : Nat → Prop) (hB : ∀ i, w.heap.size ≤ i → B i) (H : SideR B w g m x) (bd : x.d.Bd) (kind a b : Int) (f : LFrame) (hl : f.data.length ≤ 8) (hf : FrameR p w f) :
    Calls Try.prog 81 #[.pointer (some ⟨g, 0, none⟩), .int .i64 kind, .int .i64 a, .int .i64 b, .agg #[.bool f.ext, .int .u32 f.id, .bool f.rtr, .int .i64 f.dlc, .slice f.A f.data.length f.cap]] w
      (Ret (fun _ : LHost => .tuple #[]) (fun y w' => y.d = x.d.post kind a b f.d ∧ SideR B w' g m y ∧ Chg B w w')) := by
  have hg := lt_of_heap H.blk
  obtain ⟨W0, e0⟩ : ∃ W0, W0 = w.alloc (.cells #[.bool f.ext, .int .u32 f.id, .bool f.rtr, .int .i64 f.dlc, .slice f.A f.data.length f.cap] 49) := ⟨_, rfl⟩
  have b0 : Below w.heap.size w W0 := by rw [e0]; exact (by repeat first | with_reducible exact Below.refl _ _ | with_reducible assumption | with_reducible refine bl_alloc ?_ _ | with_reducible refine bl_drewN ?_ _ | with_reducible refine Below.drew ?_ | (refine bl_set ?_ (by simp <;> omega) _))
  have z0 : W0.heap.size = w.heap.size + 1 := by rw [e0]; simp
  have k0 : W0.heap[w.heap.size]? = some (.cells #[.bool f.ext, .int .u32 f.id, .bool f.rtr, .int .i64 f.dlc, .slice f.A f.data.length f.cap] 49 (0, 0)) := by rw [e0]; exact heap_new _ _ rfl
  have H0 : Hid _ := H.below b0
  have F0 : Hid _ := FrameR.below hf b0
  have E0 : Hid _ := e0
  have BD : Hid _ := bd
  have hev0 := bd.ev0
  have hev1 := bd.ev1
  have hql : x.queue.length ≤ 32 := by have := bd.ne; rw [x.qlen] at this; simp only [LHost.d] at this hev1; omega
  change 1 ≤ x.cfg.events at hev0
  change x.cfg.events ≤ 32 at hev1
  have hBH : Hid _ := hB
  have hlo : Hid (∀ i, (Value.slice x.eA x.queue.length x.ec).ownBlock = some i → i < w.heap.size) := fun i hi => own_lt H.own.e.own hi
  clear H hf bd hB
  obtain ⟨d0, d1, d2, d3, d4, df⟩ := five k0
  have hS : Hid (∀ W, Chg (fun i => i ≠ w.heap.size) W0 W → W.cell? ⟨w.heap.size, 0, none⟩ = some (.bool f.ext) ∧ W.cell? ⟨w.heap.size, 1, none⟩ = some (.int .u32 f.id) ∧ W.cell? ⟨w.heap.size, 2, none⟩ = some (.bool f.rtr) ∧ W.cell? ⟨w.heap.size, 3, none⟩ = some (.int .i64 f.dlc) ∧ W.cell? ⟨w.heap.size, 4, none⟩ = some (.slice f.A f.data.length f.cap) ∧ Chg (fun i => i ≠ w.heap.size) W0 W) := fun W hW =>
    ⟨(hW.cell (by simp; omega) (by simp)).trans d0, (hW.cell (by simp; omega) (by simp)).trans d1, (hW.cell (by simp; omega) (by simp)).trans d2, (hW.cell (by simp; omega) (by simp)).trans d3, (hW.cell (by simp; omega) (by simp)).trans d4, hW⟩
  clear k0 d0 d1 d2 d3 d4 df
  by_cases hc : x.cfg.events ≤ (x.queue.length : Int)
  · have HC : Hid _ := hc
    clear e0
    go_enter Try.func81, Try.ntmps81
    go_wp2_with fail
    rw [← E0.out]
    go_region_held3 (fun W => W.cell? ⟨w.heap.size, 0, none⟩ = some (.bool f.ext) ∧ W.cell? ⟨w.heap.size, 1, none⟩ = some (.int .u32 f.id) ∧ W.cell? ⟨w.heap.size, 2, none⟩ = some (.bool f.rtr) ∧ W.cell? ⟨w.heap.size, 3, none⟩ = some (.int .i64 f.dlc) ∧ W.cell? ⟨w.heap.size, 4, none⟩ = some (.slice f.A f.data.length f.cap) ∧ Chg (fun i => i ≠ w.heap.size) W0 W)
      (exact hS.out _ (by repeat first | with_reducible exact Chg.refl _ _ | with_reducible assumption | with_reducible refine Chg.alloc ?_ _ | with_reducible refine Chg.drewN ?_ _ | with_reducible refine Chg.drew ?_ | (refine Chg.set ?_ (by simp <;> omega) _)))
      (first
        | (go_at_call 82
           refine (copyFrame_any _ f (by omega) (FrameR.below F0.out (by exact (by repeat first | with_reducible exact Below.refl _ _ | with_reducible assumption | with_reducible refine bl_alloc ?_ _ | with_reducible refine bl_drewN ?_ _ | with_reducible refine Below.drew ?_ | (refine bl_set ?_ (by simp <;> omega) _))))).mono ?_
           rintro e w1 ⟨A', c', rfl, R', G', hbb⟩
           have g1 : Below W0.heap.size W0 w1 := bl_then (by exact (by repeat first | with_reducible exact Below.refl _ _ | with_reducible assumption | with_reducible refine bl_alloc ?_ _ | with_reducible refine bl_drewN ?_ _ | with_reducible refine Below.drew ?_ | (refine bl_set ?_ (by simp <;> omega) _))) hbb
           have hch1 : Chg (fun i => i ≠ w.heap.size) W0 w1 := Chg.of_below g1 _
           have H1 : Hid _ := H0.out.below g1
           have zz1 := g1.size
           clear R' G' hbb)
        | (go_at_call 95
           refine (pushE_no _ g 9 x.cfg.events x.eA x.ec x.queue.length ⟨kind, a, b, ⟨f.ext, f.id, f.rtr, f.dlc, A', c', f.data⟩⟩ (by omega) (by omega) (by omega) ?_ ?_ hc).mono ?_
           exact cell_at (heap_below (by exact (by repeat first | with_reducible exact Below.refl _ _ | with_reducible assumption | with_reducible refine bl_alloc ?_ _ | with_reducible refine bl_drewN ?_ _ | with_reducible refine Below.drew ?_ | (refine bl_set ?_ (by simp <;> omega) _))) H1.out.blk) 9 _ rfl
           exact cell_at (heap_below (by exact (by repeat first | with_reducible exact Below.refl _ _ | with_reducible assumption | with_reducible refine bl_alloc ?_ _ | with_reducible refine bl_drewN ?_ _ | with_reducible refine Below.drew ?_ | (refine bl_set ?_ (by simp <;> omega) _))) H1.out.blk) 10 _ rfl
           rintro e w2 ⟨rfl, hbb2⟩
           have g2 : Below w1.heap.size w1 w2 := bl_then (by exact (by repeat first | with_reducible exact Below.refl _ _ | with_reducible assumption | with_reducible refine bl_alloc ?_ _ | with_reducible refine bl_drewN ?_ _ | with_reducible refine Below.drew ?_ | (refine bl_set ?_ (by simp <;> omega) _))) hbb2
           have hch2 : Chg (fun i => i ≠ w.heap.size) W0 w2 := Chg.trans hch1 (Chg.of_below g2 (fun _ => False)) (fun _ _ h => h.elim)
           have H2 : Hid _ := H1.out.below g2
           have g02 : Below w.heap.size w w2 := bl_then b0 (bl_then g1 g2)
           clear hbb2))
    clear hS
    have hl0 : 0 ≤ x.lost := BD.out.l0
    have hl1 : x.lost ≤ 100000 := BD.out.l1
    obtain ⟨c0, c1, c2, c3, c4, c5, c6, c7, c8, c9, c10, c11, c12, cf⟩ := thirteen H2.out.blk
    have hg2 := lt_of_heap H2.out.blk
    have hd : Hid (x.d.post kind a b f.d = { x.d with lost := if x.lost < 100000 then x.lost + 1 else x.lost }) := by
      unfold DHost.post
      rw [if_pos (by rw [x.qlen]; exact HC.out)]; rfl
    have hGB : Hid _ := H2.out.gB
    by_cases hlo : x.lost < 100000
    · have HLO : Hid _ := hlo
      go_wp2_with fail
      go_end0
      refine Ret.mk { x with lost := x.lost + 1, stamp := x.stamp } rfl ⟨?_, H2.out.put 11 _ _ _ rfl, ?_⟩
      · rw [hd.out, if_pos HLO.out]; rfl
      · exact Chg.trans (Chg.of_below g02 B) (b := w2) (T := fun i => i = g) (by repeat first | with_reducible exact Chg.refl _ _ | with_reducible assumption | with_reducible refine Chg.alloc ?_ _ | with_reducible refine Chg.drewN ?_ _ | with_reducible refine Chg.drew ?_ | (refine Chg.set ?_ (by simp <;> omega) _)) (fun i _ hi => by subst hi; exact hGB.out)
    · have HLO : Hid _ := hlo
      go_wp2_with fail
      go_end0
      refine Ret.mk { x with lost := 100000, stamp := x.stamp } rfl ⟨?_, H2.out.put 11 _ _ _ rfl, ?_⟩
      · rw [hd.out, if_neg HLO.out]
        have : x.lost = 100000 := by have := HLO.out; omega
        rw [this]; rfl
      · exact Chg.trans (Chg.of_below g02 B) (b := w2) (T := fun i => i = g) (by repeat first | with_reducible exact Chg.refl _ _ | with_reducible assumption | with_reducible refine Chg.alloc ?_ _ | with_reducible refine Chg.drewN ?_ _ | with_reducible refine Chg.drew ?_ | (refine Chg.set ?_ (by simp <;> omega) _)) (fun i _ hi => by subst hi; exact hGB.out)
  · have HC : Hid _ := hc
    clear e0
    go_enter Try.func81, Try.ntmps81
    go_wp2_with fail
    rw [← E0.out]
    go_region_held3 (fun W => W.cell? ⟨w.heap.size, 0, none⟩ = some (.bool f.ext) ∧ W.cell? ⟨w.heap.size, 1, none⟩ = some (.int .u32 f.id) ∧ W.cell? ⟨w.heap.size, 2, none⟩ = some (.bool f.rtr) ∧ W.cell? ⟨w.heap.size, 3, none⟩ = some (.int .i64 f.dlc) ∧ W.cell? ⟨w.heap.size, 4, none⟩ = some (.slice f.A f.data.length f.cap) ∧ Chg (fun i => i ≠ w.heap.size) W0 W)
      (exact hS.out _ (by repeat first | with_reducible exact Chg.refl _ _ | with_reducible assumption | with_reducible refine Chg.alloc ?_ _ | with_reducible refine Chg.drewN ?_ _ | with_reducible refine Chg.drew ?_ | (refine Chg.set ?_ (by simp <;> omega) _)))
      (first
        | (go_at_call 82
           refine (copyFrame_any _ f (by omega) (FrameR.below F0.out (by exact (by repeat first | with_reducible exact Below.refl _ _ | with_reducible assumption | with_reducible refine bl_alloc ?_ _ | with_reducible refine bl_drewN ?_ _ | with_reducible refine Below.drew ?_ | (refine bl_set ?_ (by simp <;> omega) _))))).mono ?_
           rintro e w1 ⟨A', c', rfl, R', G', hbb⟩
           have g1 : Below W0.heap.size W0 w1 := bl_then (by exact (by repeat first | with_reducible exact Below.refl _ _ | with_reducible assumption | with_reducible refine bl_alloc ?_ _ | with_reducible refine bl_drewN ?_ _ | with_reducible refine Below.drew ?_ | (refine bl_set ?_ (by simp <;> omega) _))) hbb
           have hch1 : Chg (fun i => i ≠ w.heap.size) W0 w1 := Chg.of_below g1 _
           have H1 : Hid _ := H0.out.below g1
           have zz1 := g1.size
           have R1 : Hid _ := R'
           have I1 : Hid (InA W0.heap.size w1.heap.size A') := fun a ha => by have h := G' a ha; simp at h; omega
           clear R' G' hbb)
        | (go_at_call 95
           refine (pushE_yes _ g 9 (sideCells x m) 116 (by decide) (by decide) x.cfg.events x.eA x.ec x.queue ⟨kind, a, b, ⟨f.ext, f.id, f.rtr, f.dlc, A', c', f.data⟩⟩ B ?_ (by omega) (by omega) (by omega) ?_ rfl rfl (by omega) ?_ ?_ ?_).mono ?_
           exact fun i hi => hBH.out i (by have hi : w1.heap.size ≤ i := (by simpa using hi); omega)
           exact heap_below (by exact (by repeat first | with_reducible exact Below.refl _ _ | with_reducible assumption | with_reducible refine bl_alloc ?_ _ | with_reducible refine bl_drewN ?_ _ | with_reducible refine Below.drew ?_ | (refine bl_set ?_ (by simp <;> omega) _))) H1.out.blk
           exact H1.out.own.e.below (by exact (by repeat first | with_reducible exact Below.refl _ _ | with_reducible assumption | with_reducible refine bl_alloc ?_ _ | with_reducible refine bl_drewN ?_ _ | with_reducible refine Below.drew ?_ | (refine bl_set ?_ (by simp <;> omega) _)))
           exact FrameR.below (p := True) (f := ⟨f.ext, f.id, f.rtr, f.dlc, A', c', f.data⟩) R1.out (by exact (by repeat first | with_reducible exact Below.refl _ _ | with_reducible assumption | with_reducible refine bl_alloc ?_ _ | with_reducible refine bl_drewN ?_ _ | with_reducible refine Below.drew ?_ | (refine bl_set ?_ (by simp <;> omega) _)))
           exact fun a ha => by have h2 := I1.out a ha; exact ⟨hBH.out _ (by omega), by simpa using h2.2⟩
           rintro e w2 ⟨r, rfl, hk, hr, hcc⟩
           have hcd : Chg (fun i => i = g ∨ (Value.slice x.eA x.queue.length x.ec).ownBlock = some i) w1 w2 := Chg.trans (b := _) (T := fun i => i = g ∨ (Value.slice x.eA x.queue.length x.ec).ownBlock = some i) (by exact (by repeat first | with_reducible exact Chg.refl _ _ | with_reducible assumption | with_reducible refine Chg.alloc ?_ _ | with_reducible refine Chg.drewN ?_ _ | with_reducible refine Chg.drew ?_ | (refine Chg.set ?_ (by simp <;> omega) _))) hcc (fun _ _ h => h)
           have hch2 : Chg (fun i => i ≠ w.heap.size) W0 w2 := Chg.trans hch1 hcd (fun i _ hi => by rcases hi with hi | hi; omega; (have := hlo.out i hi; omega))
           have HK : Hid _ := hk
           have HR : Hid _ := hr
           have HCD : Hid _ := hcd
           clear hk hr hcc hcd))
    clear hS
    go_wp2_with fail
    go_end0
    refine Ret.mk { x with queue := x.queue ++ [⟨kind, a, b, ⟨f.ext, f.id, f.rtr, f.dlc, A', c', f.data⟩⟩], eA := r.1, ec := r.2 } rfl ⟨?_, ?_, ?_⟩
    · unfold DHost.post
      rw [if_neg (by rw [x.qlen]; exact HC.out)]
      simp [LHost.d, LEvent.d, LFrame.d]
    · obtain ⟨D, h1, h2⟩ := H1.out.map
      refine ⟨?_, H1.out.own.pushedE H1.out.noRow HCD.out HR.out, ⟨D, h1.chg HCD.out (fun hi => ?_), h2⟩, H1.out.gB, H1.out.mB⟩
      · rw [HK.out]; simp [sideCells]
      · rcases hi with hi | hi
        · exact H1.out.map_ne hi
        · obtain ⟨cs, hc⟩ := own_type H1.out.own.e.own hi
          exact ty_map h1 _ ⟨_, _, hc⟩
    · refine Chg.trans (Chg.of_below (bl_then b0 g1) B) HCD.out (fun i _ hi => ?_)
      rcases hi with hi | hi
      · subst hi; exact H1.out.gB
      · exact H1.out.own.e.at_ i hi
end Go.Proofs.Ytcfhjmflnochcaa
