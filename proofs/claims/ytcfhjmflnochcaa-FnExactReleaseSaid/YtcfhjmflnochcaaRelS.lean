/-
  The reference's Release.
-/
import Derived.Test.YtcfhjmflnochcaaPostS
import Derived.Deep.Cut
set_option linter.unusedVariables false
set_option linter.unusedSimpArgs false
namespace Go.Proofs.Ytcfhjmflnochcaa
open Go.RowKit
variable {p q : Prop}

def LFrame.zero : LFrame := ⟨false, 0, false, 0, none, 0, []⟩
def LBox.zero : LBox := ⟨0, 0, 0, LFrame.zero⟩

set_option maxRecDepth 100000 in
theorem l3say_any (w : World) (h : LHost) (kind a b : Int) (B : Nat → Prop) (hB : ∀ i, w.heap.size ≤ i → B i) (H : OwnHost B w h) (hq : h.queue.length ≤ 4194304) (h0 : 0 ≤ h.lost) :
    Calls Try.prog 67 #[.agg #[.int .i64 h.cfg.boxes, .int .i64 h.cfg.fifo, .int .i64 h.cfg.policy, .int .i64 h.cfg.events, .slice h.fA h.filters.length h.fc, .slice h.bA h.boxes.length h.bc, .slice h.qA h.fifo.length h.qc, .slice h.eA h.queue.length h.ec, .int .i64 h.lost, .int .i64 h.stamp], .int .i64 kind, .int .i64 a, .int .i64 b] w
      (Ret hv fun x w' => x.d = h.d.post kind a b DFrame.zero ∧ OwnHost B w' x ∧ Chg B w w') := by
  have HO : Hid _ := H
  have hBH : Hid _ := hB
  clear H hB
  go_enter Try.func67, Try.ntmps67
  go_wp2_with fail
  have k1 := heap_new (W := w.alloc (.cells #[.int .i64 h.cfg.boxes, .int .i64 h.cfg.fifo, .int .i64 h.cfg.policy, .int .i64 h.cfg.events, .slice h.fA h.filters.length h.fc, .slice h.bA h.boxes.length h.bc, .slice h.qA h.fifo.length h.qc, .slice h.eA h.queue.length h.ec, .int .i64 h.lost, .int .i64 h.stamp] 37)) (.cells hzero 37) (w.heap.size + 1) (by simp)
  refine (l3post_any (p := True) _ h kind a b LFrame.zero (fun i => (B i ∧ i < w.heap.size) ∨ w.heap.size + 2 ≤ i) (by intro i hi; simp at hi; right; omega) ((HO.out.mono (fun i hi hl => .inl ⟨hi, hl⟩)).below (by exact (by repeat first | with_reducible exact Below.refl _ _ | with_reducible assumption | with_reducible refine bl_alloc ?_ _ | with_reducible refine bl_drewN ?_ _ | with_reducible refine Below.drew ?_ | (refine bl_set ?_ (by simp <;> omega) _)))) hq h0 (by simp [LFrame.zero]) (.inl rfl)).mono ?_; rintro e w1 ⟨x, rfl, hx, hO, hch⟩
  have k2 := heap_chg hch k1 (by simp)
  have zz := lt_of_heap k2
  have cw : Chg B w w1 := Chg.trans (by exact (by repeat first | with_reducible exact Chg.refl _ _ | with_reducible assumption | with_reducible refine Chg.alloc ?_ _ | with_reducible refine Chg.drewN ?_ _ | with_reducible refine Chg.drew ?_ | (refine Chg.set ?_ (by simp <;> omega) _))) hch (fun i hl hi => by rcases hi with hi | hi; exact hi.1; omega)
  have HX : Hid _ := hx
  have HOX : Hid _ := hO
  obtain ⟨v0, v1, v2, v3, v4, v5, v6, v7, v8, v9, vf⟩ := ten k2
  clear k1 k2 hx hO hch
  unfold hv
  go_wp2_with fail
  refine bodyPost_ret (v := hv x) (by simp [results, Try.results67, go_sem, hv, *]) rfl (Ret.mk x rfl ⟨HX.out, ?_, ?_⟩)
  · exact (HOX.out.chg (S := fun i => i = w.heap.size + 1) (by repeat first | with_reducible exact Chg.refl _ _ | with_reducible assumption | with_reducible refine Chg.alloc ?_ _ | with_reducible refine Chg.drewN ?_ _ | with_reducible refine Chg.drew ?_ | (refine Chg.set ?_ (by simp <;> omega) _)) (fun i hi _ => by omega)).mono (fun i hi _ => by rcases hi with hi | hi; exact hi.1; exact hBH.out i (by omega))
  · exact Chg.trans cw (b := w1) (T := fun i => i = w.heap.size + 1) (by repeat first | with_reducible exact Chg.refl _ _ | with_reducible assumption | with_reducible refine Chg.alloc ?_ _ | with_reducible refine Chg.drewN ?_ _ | with_reducible refine Chg.drew ?_ | (refine Chg.set ?_ (by simp <;> omega) _)) (fun i hi he => hBH.out i (by omega))

/-! ### stores into a row of one's own -/
theorem flat_set1 {α : Type} {enc : α → List Value} {sz : Nat} (he : ∀ x, (enc x).length = sz) (xs : List α) (k j : Nat) (hk : k < xs.length) (hj : j < sz) (y : α) (v : Value) (hy : enc y = (enc xs[k]).set j v) :
    (xs.flatMap enc).set (k * sz + j) v = (xs.set k y).flatMap enc := by
  have h1 : xs.flatMap enc = (xs.take k).flatMap enc ++ (enc xs[k] ++ (xs.drop (k + 1)).flatMap enc) := by
    conv => lhs; rw [← List.take_append_drop k xs, List.drop_eq_getElem_cons hk, List.flatMap_append, List.flatMap_cons]
  have h2 : (xs.set k y).flatMap enc = (xs.take k).flatMap enc ++ (enc y ++ (xs.drop (k + 1)).flatMap enc) := by
    rw [List.set_eq_take_append_cons_drop, if_pos hk]
    simp
  have h3 : k * sz = ((xs.take k).flatMap enc).length := by rw [flatMap_len he, List.length_take, Nat.min_eq_left (by omega)]
  rw [h1, h2, hy, h3, List.set_append_right _ _ (by omega), Nat.add_sub_cancel_left, List.set_append_left _ _ (by rw [he]; exact hj)]
section
variable {α : Type} {enc : α → List Value} {fr : α → LFrame} {e : TypeId} {size : Nat} {B : Nat → Prop} {w w' : World} {A : Option Addr} {c : Nat} {ys : List α}
theorem Row.writable (h : Row enc fr e size B w A c ys) (hn : 0 < ys.length) : ∃ g, A = some ⟨g, 0, none⟩ ∧ g < w.heap.size ∧ B g ∧ (∀ i, w.frozen? ⟨g, i, none⟩ = false) ∧ Ty w e g := by
  rcases h.own.2 with ⟨h1, _⟩ | ⟨g, cap, cur, h1, _, h2, _⟩
  · injection h1 with _ h1 _; omega
  · injection h1 with h1 _ _
    subst h1
    exact ⟨g, rfl, lt_of_heap h2, h.at_ g rfl, frozen_at h2, ⟨_, _, h2⟩⟩
/-- A row behind stores into its own block. -/
theorem Row.stored {g : Nat} (h : Row enc fr e size B w (some ⟨g, 0, none⟩) c ys) (k : Nat) (y : α) (hk : k < ys.length) (ch : Chg (fun b => b = g) w w')
    (ho : w'.ownsRow 0 e size (.slice (some ⟨g, 0, none⟩) ys.length c) ys.length ((ys.set k y).flatMap enc)) (hu : e ≠ 5) (hR : FrameR True w (fr y)) (hI : ∀ a, (fr y).A = some a → B a.block ∧ a.block < w.heap.size) :
    Row enc fr e size B w' (some ⟨g, 0, none⟩) c (ys.set k y) := by
  have hT : ∀ b, b = g → ¬ Ty w 5 b := fun b hb ht => by
    obtain ⟨g', h1, _, _, _, h2⟩ := h.writable (by omega)
    injection h1 with h1; injection h1 with h1 _ _
    subst h1; subst hb
    exact hu (h2.one ht)
  refine ⟨by simpa using ho, by simpa using h.at_, fun z hz => ?_, fun z hz a ha => ?_⟩
  · refine Cells.chgTy ?_ ch hT
    rcases List.mem_or_eq_of_mem_set hz with hz | rfl
    · exact h.R z hz
    · exact hR
  · refine (fun hp : B a.block ∧ a.block < w.heap.size => ⟨hp.1, Nat.lt_of_lt_of_le hp.2 ch.size⟩) ?_
    rcases List.mem_or_eq_of_mem_set hz with hz | rfl
    · exact h.I z hz a ha
    · exact hI a ha
/-- What a store into one row does to another, of another type. -/
theorem Row.other {g : Nat} {e' : TypeId} (h : Row enc fr e size B w A c ys) (ch : Chg (fun b => b = g) w w') (ht : Ty w e' g) (hne : e ≠ e') (hu : 5 ≠ e') : Row enc fr e size B w' A c ys :=
  ⟨own_keep h.own fun g' hg' hl => ch.block g' hl fun he => by
      subst he
      obtain ⟨c1, h1⟩ := own_type h.own hg'
      exact hne (Ty.one ⟨_, _, h1⟩ ht),
   h.at_, fun z hz => Cells.chgTy (h.R z hz) ch (fun b hb hb2 => by subst hb; exact hu (hb2.one ht)), fun z hz a ha => ⟨(h.I z hz a ha).1, Nat.lt_of_lt_of_le (h.I z hz a ha).2 ch.size⟩⟩
end

theorem map_boxes {h : LHost} {k : Nat} {y : LBox} : ({ h with boxes := h.boxes.set k y } : LHost).d = { h.d with boxes := h.d.boxes.set k y.d } := by simp [LHost.d, List.map_set]
theorem box_own {B : Nat → Prop} {w : World} {h : LHost} (H : OwnHost B w h) {k : Nat} (hk : k < h.boxes.length) : ∃ g, h.bA = some ⟨g, 0, none⟩ ∧ g < w.heap.size ∧ B g ∧ (∀ i, w.frozen? ⟨g, i, none⟩ = false) ∧ Ty w 98 g ∧ BoxAt w g (k * 8) h.boxes[k] := by
  obtain ⟨g, hA, h1, h2, h3, h4⟩ := H.b.writable (by omega)
  obtain ⟨g', o, hA', _, h5⟩ := boxAt H.hostR.b.1 k hk
  rw [hA] at hA'
  injection hA' with hA'
  injection hA' with e1 e2 _
  subst e1
  subst e2
  rw [Nat.zero_add] at h5
  exact ⟨g, hA, h1, h2, h3, h4, h5⟩
/-- A host behind a change of one of its boxes, in place. -/
theorem OwnHost.setBox {B : Nat → Prop} {w w' : World} {h : LHost} (H : OwnHost B w h) {g : Nat} (hA : h.bA = some ⟨g, 0, none⟩) (ht : Ty w 98 g) (k : Nat) (hk : k < h.boxes.length) (y : LBox) (ch : Chg (fun b => b = g) w w')
    (ho : w'.ownsRow 0 98 8 (.slice (some ⟨g, 0, none⟩) h.boxes.length h.bc) h.boxes.length ((h.boxes.set k y).flatMap LBox.cs)) (hR : FrameR True w y.f) (hI : ∀ a, y.f.A = some a → B a.block ∧ a.block < w.heap.size) :
    OwnHost B w' { h with boxes := h.boxes.set k y } := by
  have hb := H.b
  rw [hA] at hb
  refine ⟨H.f.other ch ht (by decide) (by decide), ?_, H.q.other ch ht (by decide) (by decide), H.e.other ch ht (by decide) (by decide)⟩
  show Row LBox.cs LBox.f _ 8 B w' h.bA h.bc (h.boxes.set k y)
  rw [hA]
  exact hb.stored k y hk ch ho (by decide) hR hI

/-- A box stored, cell by cell. -/
def set8 (w : World) (g o : Nat) (y : LBox) : World :=
  (((((((w.setCell ⟨g, o, none⟩ (.int .i64 y.state)).setCell ⟨g, o + 1, none⟩ (.int .i64 y.tag)).setCell ⟨g, o + 2, none⟩ (.int .i64 y.stamp)).setCell ⟨g, o + 3, none⟩ (.bool y.f.ext)).setCell ⟨g, o + 4, none⟩ (.int .u32 y.f.id)).setCell ⟨g, o + 5, none⟩ (.bool y.f.rtr)).setCell ⟨g, o + 6, none⟩ (.int .i64 y.f.dlc)).setCell ⟨g, o + 7, none⟩ (.slice y.f.A y.f.data.length y.f.cap)
theorem set8_size (w : World) (g o : Nat) (y : LBox) : (set8 w g o y).heap.size = w.heap.size := by simp [set8]
theorem set8_chg (w : World) (g o : Nat) (y : LBox) : Chg (fun b => b = g) w (set8 w g o y) := by unfold set8; exact (by repeat first | with_reducible exact Chg.refl _ _ | with_reducible assumption | with_reducible refine Chg.alloc ?_ _ | with_reducible refine Chg.drewN ?_ _ | with_reducible refine Chg.drew ?_ | (refine Chg.set ?_ (by simp <;> omega) _))
theorem OwnHost.set8 {B : Nat → Prop} {w : World} {h : LHost} (H : OwnHost B w h) {g : Nat} (hA : h.bA = some ⟨g, 0, none⟩) (ht : Ty w 98 g) (k : Nat) (hk : k < h.boxes.length) (y : LBox) (hR : FrameR True w y.f) (hI : ∀ a, y.f.A = some a → B a.block ∧ a.block < w.heap.size) :
    OwnHost B (Go.Proofs.Ytcfhjmflnochcaa.set8 w g (k * 8) y) { h with boxes := h.boxes.set k y } := by
  have hb := H.b.own
  rw [hA] at hb
  exact H.setBox hA ht k hk y (set8_chg w g _ y) (put8 LBox.cs_len hb k hk y rfl) hR hI
/-- Only a box's state stored. -/
theorem OwnHost.setState {B : Nat → Prop} {w : World} {h : LHost} (H : OwnHost B w h) {g : Nat} (hA : h.bA = some ⟨g, 0, none⟩) (ht : Ty w 98 g) (k : Nat) (hk : k < h.boxes.length) (s : Int) :
    OwnHost B (w.setCell ⟨g, k * 8, none⟩ (.int .i64 s)) { h with boxes := h.boxes.set k { h.boxes[k] with state := s } } := by
  have hb := H.b.own
  rw [hA] at hb
  have h1 := (hb.stored (k * 8) (.int .i64 s)).1
  have h2 := flat_set1 LBox.cs_len h.boxes k 0 hk (by omega) { h.boxes[k] with state := s } (.int .i64 s) rfl
  rw [Nat.add_zero] at h2
  rw [h2] at h1
  exact H.setBox hA ht k hk _ (by exact (by repeat first | with_reducible exact Chg.refl _ _ | with_reducible assumption | with_reducible refine Chg.alloc ?_ _ | with_reducible refine Chg.drewN ?_ _ | with_reducible refine Chg.drew ?_ | (refine Chg.set ?_ (by simp <;> omega) _))) h1 (H.b.R h.boxes[k] (List.getElem_mem hk)) (H.b.I h.boxes[k] (List.getElem_mem hk))
theorem ty_not {w : World} {g : Nat} {e e' : TypeId} (h : Ty w e g) (hne : e ≠ e') : ∀ b, b = g → ¬ Ty w e' b := fun b hb ht => by subst hb; exact hne (h.one ht)
theorem Ty.keep {S : Nat → Prop} {w w' : World} {g : Nat} {e : TypeId} (h : Ty w e g) (c : Chg S w w') (hs : ¬ S g) : Ty w' e g := by
  obtain ⟨cs, fr, h⟩ := h
  exact ⟨cs, fr, heap_chg c h hs⟩

set_option maxHeartbeats 4000000 in
set_option maxRecDepth 100000 in
theorem l3doRelease_any (w : World) (h : LHost) (sent : Bool) (B : Nat → Prop) (hB : ∀ i, w.heap.size ≤ i → B i) (H : OwnHost B w h) (hz : HostSz h) (h0 : 0 ≤ h.lost) :
    Calls Try.prog 26 #[.agg #[.int .i64 h.cfg.boxes, .int .i64 h.cfg.fifo, .int .i64 h.cfg.policy, .int .i64 h.cfg.events, .slice h.fA h.filters.length h.fc, .slice h.bA h.boxes.length h.bc, .slice h.qA h.fifo.length h.qc, .slice h.eA h.queue.length h.ec, .int .i64 h.lost, .int .i64 h.stamp], .bool sent] w
      (Ret hv fun x w' => x.d = h.d.release sent ∧ OwnHost B w' x ∧ Chg B w w') := by
  have HO : Hid (OwnHost (fun i => (B i ∧ i < w.heap.size) ∨ w.heap.size + 2 ≤ i) w h) := H.mono (fun i hi hl => .inl ⟨hi, hl⟩)
  have hBH : Hid _ := hB
  have hzb := hz.b
  clear H hB
  go_enter Try.func26, Try.ntmps26
  go_wp2_with fail
  have k0 := heap_old (.cells hzero 37) (heap_new (W := w) (.cells (hostCells h) 37) _ rfl)
  have k1 := heap_new (W := w.alloc (.cells (hostCells h) 37)) (.cells hzero 37) (w.heap.size + 1) (by simp)
  refine (l3busy_any _ h (by omega) _ (HO.out.below (by exact (by repeat first | with_reducible exact Below.refl _ _ | with_reducible assumption | with_reducible refine bl_alloc ?_ _ | with_reducible refine bl_drewN ?_ _ | with_reducible refine Below.drew ?_ | (refine bl_set ?_ (by simp <;> omega) _)))).hostR.b).mono ?_; rintro e w1 ⟨rfl, hbb⟩
  have g1 : Below w.heap.size w w1 := bl_then (by repeat first | with_reducible exact Below.refl _ _ | with_reducible assumption | with_reducible refine bl_alloc ?_ _ | with_reducible refine bl_drewN ?_ _ | with_reducible refine Below.drew ?_ | (refine bl_set ?_ (by simp <;> omega) _)) hbb
  replace k0 := heap_below hbb k0
  replace k1 := heap_below hbb k1
  have zz1 := lt_of_heap k1
  have zz0 := lt_of_heap k0
  have O1 : Hid _ := HO.out.below g1
  obtain ⟨c0, c1, c2, c3, c4, c5, c6, c7, c8, c9, cf⟩ := ten k0
  obtain ⟨d0, d1, d2, d3, d4, d5, d6, d7, d8, d9, df⟩ := ten k1
  have K0 : Hid _ := k0
  have K1 : Hid _ := k1
  clear k0 k1 hbb
  rcases firstIx_cases DBox.sending (h.boxes.map LBox.d) with ⟨hi, _⟩ | ⟨k, hk, hi, hs, hrest⟩
  · have HI : Hid _ := hi
    rw [hi]
    clear hi
    go_wp2_with fail
    refine bodyPost_ret (v := hv h) (by simp [results, Try.results26, go_sem, hv, *]) rfl (Ret.mk h rfl ⟨(release_none (h := h.d) sent HI.out).symm, ?_, ?_⟩)
    · exact (O1.out.chg (S := fun i => i = w.heap.size + 1) (by repeat first | with_reducible exact Chg.refl _ _ | with_reducible assumption | with_reducible refine Chg.alloc ?_ _ | with_reducible refine Chg.drewN ?_ _ | with_reducible refine Chg.drew ?_ | (refine Chg.set ?_ (by simp <;> omega) _)) (fun i hi _ => by omega)).mono (fun i hi _ => by rcases hi with hi | hi; exact hi.1; exact hBH.out i (by omega))
    · exact Chg.trans (Chg.of_below g1 B) (b := w1) (T := fun i => i = w.heap.size + 1) (by repeat first | with_reducible exact Chg.refl _ _ | with_reducible assumption | with_reducible refine Chg.alloc ?_ _ | with_reducible refine Chg.drewN ?_ _ | with_reducible refine Chg.drew ?_ | (refine Chg.set ?_ (by simp <;> omega) _)) (fun i hi he => hBH.out i (by omega))
  · have hkl : k < h.boxes.length := by simpa using hk
    have HI : Hid _ := hi
    have HS : Hid (h.boxes[k].d.sending = true) := by show h.boxes[k].d.sending = true; simpa using hs
    rw [hi]
    clear hi hs hrest hk
    obtain ⟨g, hA, hg, hBg, gf, hTy, ⟨e0, e1, e2, e3, e4, e5, e6, e7⟩⟩ := box_own O1.out hkl
    rw [hA] at c5
    have HA : Hid _ := hA
    have HT : Hid _ := hTy
    have HBg : Hid _ := hBg
    obtain ⟨x, hx⟩ : ∃ x, x = h.boxes[k] := ⟨_, rfl⟩
    rw [← hx] at e0 e1 e2 e3 e4 e5 e6 e7
    have HX : Hid _ := hx
    clear hx hA hTy hBg
    cases sent
    · by_cases h3 : x.state = 3
      · have HS3 : Hid _ := h3
        have q3 : (x.state == 3) = true := by simp [h3]
        clear h3
        go_upto_region 10 with fail
        change Code.wp _ _ _ _ ((set8 w1 g (k * 8) LBox.zero).alloc (.cells #[.int .i64 x.state, .int .i64 x.tag, .int .i64 x.stamp, .bool x.f.ext, .int .u32 x.f.id, .bool x.f.rtr, .int .i64 x.f.dlc, .slice x.f.A x.f.data.length x.f.cap] 98))
        have sW := set8_size w1 g (k * 8) LBox.zero
        have cW := set8_chg w1 g (k * 8) LBox.zero
        have oW : Hid _ := O1.out.set8 HA.out HT.out k hkl LBox.zero (.inl rfl) (fun a ha => by cases ha)
        have fW : Hid _ := Cells.chgTy (O1.out.b.R _ (List.getElem_mem hkl)) cW (ty_not HT.out (by decide))
        generalize set8 w1 g (k * 8) LBox.zero = W at sW cW oW fW ⊢
        have hgl : g ≠ w.heap.size ∧ g ≠ w.heap.size + 1 := by have := HBg.out; omega
        obtain ⟨V, eV⟩ : ∃ V, V = W.alloc (.cells #[.int .i64 x.state, .int .i64 x.tag, .int .i64 x.stamp, .bool x.f.ext, .int .u32 x.f.id, .bool x.f.rtr, .int .i64 x.f.dlc, .slice x.f.A x.f.data.length x.f.cap] 98) := ⟨_, rfl⟩
        have bV : Below W.heap.size W V := by rw [eV]; exact (by repeat first | with_reducible exact Below.refl _ _ | with_reducible assumption | with_reducible refine bl_alloc ?_ _ | with_reducible refine bl_drewN ?_ _ | with_reducible refine Below.drew ?_ | (refine bl_set ?_ (by simp <;> omega) _))
        have k0 := heap_below bV (heap_chg cW K0.out (by omega))
        have k1 := heap_below bV (heap_chg cW K1.out (by omega))
        have kb : V.heap[w1.heap.size]? = some (.cells #[.int .i64 x.state, .int .i64 x.tag, .int .i64 x.stamp, .bool x.f.ext, .int .u32 x.f.id, .bool x.f.rtr, .int .i64 x.f.dlc, .slice x.f.A x.f.data.length x.f.cap] 98 (0, 0)) := by rw [eV]; exact heap_new _ _ sW
        have oV : Hid _ := oW.out.below bV
        have fV : Hid (FrameR True V x.f) := by rw [HX.out]; exact FrameR.below fW.out bV
        have cV : Hid (Chg B w V) := Chg.trans (Chg.of_below g1 B) (Chg.trans (S := fun b => b = g) cW (Chg.of_below bV _) (fun _ _ h => h)) (fun i _ hi => by subst hi; rcases HBg.out with h | h; exact h.1; exact hBH.out _ (by omega))
        have zV : w1.heap.size < V.heap.size := lt_of_heap kb
        rw [← eV]
        clear eV c0 c1 c2 c3 c4 c5 c6 c7 c8 c9 cf d0 d1 d2 d3 d4 d5 d6 d7 d8 d9 df e0 e1 e2 e3 e4 e5 e6 e7 gf bV cW sW oW fW
        obtain ⟨c0, c1, c2, c3, c4, c5, c6, c7, c8, c9, cf⟩ := ten k0
        obtain ⟨e0, e1, e2, e3, e4, e5, e6, e7, ef⟩ := eight kb
        rw [HA.out] at c5
        have KZ : Hid _ := k1
        clear k0 kb k1
        go_wp2_with fail
        clear c0 c1 c2 c3 c4 c5 c6 c7 c8 c9 cf e0 e1 e2 e3 e4 e5 e6 e7 ef
        have hlen : h.boxes.length = (h.boxes.set k LBox.zero).length := by simp
        rw [← HA.out, hlen]
        clear hlen
        refine (l3say_any V { h with boxes := h.boxes.set k LBox.zero } 6 x.tag 0 (fun i => (B i ∧ i < w.heap.size) ∨ w.heap.size + 2 ≤ i) (fun i hi => .inr (by omega)) oV.out hz.e h0).mono ?_; rintro e w5 ⟨X, rfl, hX, hO, hch⟩
        have k2 := heap_chg hch KZ.out (by omega)
        have zz := lt_of_heap k2
        have HXX : Hid _ := hX
        have HOX : Hid _ := hO
        have cw : Chg B w w5 := Chg.trans cV.out hch (fun i hl hi => by rcases hi with hi | hi; exact hi.1; exact hBH.out i (by omega))
        obtain ⟨v0, v1, v2, v3, v4, v5, v6, v7, v8, v9, vf⟩ := ten k2
        clear k2 hX hO hch
        unfold hv
        go_wp2_with fail
        refine bodyPost_ret (v := hv X) (by simp [results, Try.results26, go_sem, hv, *]) rfl (Ret.mk X rfl ⟨?_, ?_, ?_⟩)
        · rw [HXX.out, map_boxes, release_some (h := h.d) _ (by simpa [LHost.d] using hkl) HI.out]
          have hx := HX.out
          have hs := HS3.out
          subst hx; simp [LHost.d, LBox.d, DBox.zero, LBox.zero, LFrame.d, LFrame.zero, DFrame.zero, hs]
        · exact (HOX.out.chg (S := fun i => i = w.heap.size + 1) (by repeat first | with_reducible exact Chg.refl _ _ | with_reducible assumption | with_reducible refine Chg.alloc ?_ _ | with_reducible refine Chg.drewN ?_ _ | with_reducible refine Chg.drew ?_ | (refine Chg.set ?_ (by simp <;> omega) _)) (fun i hi _ => by omega)).mono (fun i hi _ => by rcases hi with hi | hi; exact hi.1; exact hBH.out i (by omega))
        · exact Chg.trans cw (b := w5) (T := fun i => i = w.heap.size + 1) (by repeat first | with_reducible exact Chg.refl _ _ | with_reducible assumption | with_reducible refine Chg.alloc ?_ _ | with_reducible refine Chg.drewN ?_ _ | with_reducible refine Chg.drew ?_ | (refine Chg.set ?_ (by simp <;> omega) _)) (fun i hi he => hBH.out i (by omega))
      · have HS3 : Hid _ := h3
        have q3 : (x.state == 3) = false := by simp [h3]
        clear h3
        go_upto_region 12 with fail
        have cW : Chg (fun b => b = g) w1 (w1.setCell ⟨g, k * 8, none⟩ (.int .i64 1)) := (by repeat first | with_reducible exact Chg.refl _ _ | with_reducible assumption | with_reducible refine Chg.alloc ?_ _ | with_reducible refine Chg.drewN ?_ _ | with_reducible refine Chg.drew ?_ | (refine Chg.set ?_ (by simp <;> omega) _))
        have sW : (w1.setCell ⟨g, k * 8, none⟩ (.int .i64 1)).heap.size = w1.heap.size := by simp
        have oW : Hid _ := O1.out.setState HA.out HT.out k hkl 1
        generalize w1.setCell ⟨g, k * 8, none⟩ (.int .i64 1) = W at sW cW oW ⊢
        have hgl : g ≠ w.heap.size ∧ g ≠ w.heap.size + 1 := by have := HBg.out; omega
        have k0 := heap_chg cW K0.out (by omega)
        have k1 := heap_chg cW K1.out (by omega)
        have cV : Hid (Chg B w W) := Chg.trans (Chg.of_below g1 B) cW (fun i _ hi => by subst hi; rcases HBg.out with h | h; exact h.1; exact hBH.out _ (by omega))
        have zW := lt_of_heap k1
        have zW0 := lt_of_heap k0
        clear c0 c1 c2 c3 c4 c5 c6 c7 c8 c9 cf d0 d1 d2 d3 d4 d5 d6 d7 d8 d9 df e0 e1 e2 e3 e4 e5 e6 e7 gf
        obtain ⟨c0, c1, c2, c3, c4, c5, c6, c7, c8, c9, cf⟩ := ten k0
        obtain ⟨v0, v1, v2, v3, v4, v5, v6, v7, v8, v9, vf⟩ := ten k1
        clear k0 k1
        go_wp2_with fail
        refine bodyPost_ret (v := hv { h with boxes := h.boxes.set k { h.boxes[k] with state := 1 } }) (by simp [results, Try.results26, go_sem, hv, *]) rfl (Ret.mk { h with boxes := h.boxes.set k { h.boxes[k] with state := 1 } } rfl ⟨?_, ?_, ?_⟩)
        · rw [map_boxes, release_some (h := h.d) _ (by simpa [LHost.d] using hkl) HI.out]
          have hs := HS3.out
          rw [HX.out] at hs
          simp [LHost.d, LBox.d]
          exact fun h9 => absurd h9 hs
        · exact (oW.out.chg (S := fun i => i = w.heap.size + 1) (by repeat first | with_reducible exact Chg.refl _ _ | with_reducible assumption | with_reducible refine Chg.alloc ?_ _ | with_reducible refine Chg.drewN ?_ _ | with_reducible refine Chg.drew ?_ | (refine Chg.set ?_ (by simp <;> omega) _)) (fun i hi _ => by omega)).mono (fun i hi _ => by rcases hi with hi | hi; exact hi.1; exact hBH.out i (by omega))
        · exact Chg.trans cV.out (b := W) (T := fun i => i = w.heap.size + 1) (by repeat first | with_reducible exact Chg.refl _ _ | with_reducible assumption | with_reducible refine Chg.alloc ?_ _ | with_reducible refine Chg.drewN ?_ _ | with_reducible refine Chg.drew ?_ | (refine Chg.set ?_ (by simp <;> omega) _)) (fun i hi he => hBH.out i (by omega))
    · go_upto_region 7 with fail
      change Code.wp _ _ _ _ ((set8 w1 g (k * 8) LBox.zero).alloc (.cells #[.int .i64 x.state, .int .i64 x.tag, .int .i64 x.stamp, .bool x.f.ext, .int .u32 x.f.id, .bool x.f.rtr, .int .i64 x.f.dlc, .slice x.f.A x.f.data.length x.f.cap] 98))
      have sW := set8_size w1 g (k * 8) LBox.zero
      have cW := set8_chg w1 g (k * 8) LBox.zero
      have oW : Hid _ := O1.out.set8 HA.out HT.out k hkl LBox.zero (.inl rfl) (fun a ha => by cases ha)
      have fW : Hid _ := Cells.chgTy (O1.out.b.R _ (List.getElem_mem hkl)) cW (ty_not HT.out (by decide))
      generalize set8 w1 g (k * 8) LBox.zero = W at sW cW oW fW ⊢
      have hgl : g ≠ w.heap.size ∧ g ≠ w.heap.size + 1 := by have := HBg.out; omega
      obtain ⟨V, eV⟩ : ∃ V, V = W.alloc (.cells #[.int .i64 x.state, .int .i64 x.tag, .int .i64 x.stamp, .bool x.f.ext, .int .u32 x.f.id, .bool x.f.rtr, .int .i64 x.f.dlc, .slice x.f.A x.f.data.length x.f.cap] 98) := ⟨_, rfl⟩
      have bV : Below W.heap.size W V := by rw [eV]; exact (by repeat first | with_reducible exact Below.refl _ _ | with_reducible assumption | with_reducible refine bl_alloc ?_ _ | with_reducible refine bl_drewN ?_ _ | with_reducible refine Below.drew ?_ | (refine bl_set ?_ (by simp <;> omega) _))
      have k0 := heap_below bV (heap_chg cW K0.out (by omega))
      have k1 := heap_below bV (heap_chg cW K1.out (by omega))
      have kb : V.heap[w1.heap.size]? = some (.cells #[.int .i64 x.state, .int .i64 x.tag, .int .i64 x.stamp, .bool x.f.ext, .int .u32 x.f.id, .bool x.f.rtr, .int .i64 x.f.dlc, .slice x.f.A x.f.data.length x.f.cap] 98 (0, 0)) := by rw [eV]; exact heap_new _ _ sW
      have oV : Hid _ := oW.out.below bV
      have fV : Hid (FrameR True V x.f) := by rw [HX.out]; exact FrameR.below fW.out bV
      have cV : Hid (Chg B w V) := Chg.trans (Chg.of_below g1 B) (Chg.trans (S := fun b => b = g) cW (Chg.of_below bV _) (fun _ _ h => h)) (fun i _ hi => by subst hi; rcases HBg.out with h | h; exact h.1; exact hBH.out _ (by omega))
      have zV : w1.heap.size < V.heap.size := lt_of_heap kb
      rw [← eV]
      clear eV c0 c1 c2 c3 c4 c5 c6 c7 c8 c9 cf d0 d1 d2 d3 d4 d5 d6 d7 d8 d9 df e0 e1 e2 e3 e4 e5 e6 e7 gf bV cW sW oW fW
      obtain ⟨c0, c1, c2, c3, c4, c5, c6, c7, c8, c9, cf⟩ := ten k0
      obtain ⟨e0, e1, e2, e3, e4, e5, e6, e7, ef⟩ := eight kb
      rw [HA.out] at c5
      have KZ : Hid _ := k1
      clear k0 kb k1
      go_wp2_with fail
      clear c0 c1 c2 c3 c4 c5 c6 c7 c8 c9 cf e0 e1 e2 e3 e4 e5 e6 e7 ef
      have hlen : h.boxes.length = (h.boxes.set k LBox.zero).length := by simp
      rw [← HA.out, hlen]
      clear hlen
      refine (l3post_any V { h with boxes := h.boxes.set k LBox.zero } 1 x.tag 0 x.f (fun i => (B i ∧ i < w.heap.size) ∨ w.heap.size + 2 ≤ i) (fun i hi => .inr (by omega)) oV.out hz.e h0 (by have := hz.bd _ (List.getElem_mem hkl); rw [← HX.out] at this; omega) fV.out).mono ?_; rintro e w5 ⟨X, rfl, hX, hO, hch⟩
      have k2 := heap_chg hch KZ.out (by omega)
      have zz := lt_of_heap k2
      have HXX : Hid _ := hX
      have HOX : Hid _ := hO
      have cw : Chg B w w5 := Chg.trans cV.out hch (fun i hl hi => by rcases hi with hi | hi; exact hi.1; exact hBH.out i (by omega))
      obtain ⟨v0, v1, v2, v3, v4, v5, v6, v7, v8, v9, vf⟩ := ten k2
      clear k2 hX hO hch
      unfold hv
      go_wp2_with fail
      refine bodyPost_ret (v := hv X) (by simp [results, Try.results26, go_sem, hv, *]) rfl (Ret.mk X rfl ⟨?_, ?_, ?_⟩)
      · rw [HXX.out, map_boxes, release_some (h := h.d) _ (by simpa [LHost.d] using hkl) HI.out]
        have hx := HX.out
        subst hx; simp [LHost.d, LBox.d, DBox.zero, LBox.zero, LFrame.d, LFrame.zero, DFrame.zero]
      · exact (HOX.out.chg (S := fun i => i = w.heap.size + 1) (by repeat first | with_reducible exact Chg.refl _ _ | with_reducible assumption | with_reducible refine Chg.alloc ?_ _ | with_reducible refine Chg.drewN ?_ _ | with_reducible refine Chg.drew ?_ | (refine Chg.set ?_ (by simp <;> omega) _)) (fun i hi _ => by omega)).mono (fun i hi _ => by rcases hi with hi | hi; exact hi.1; exact hBH.out i (by omega))
      · exact Chg.trans cw (b := w5) (T := fun i => i = w.heap.size + 1) (by repeat first | with_reducible exact Chg.refl _ _ | with_reducible assumption | with_reducible refine Chg.alloc ?_ _ | with_reducible refine Chg.drewN ?_ _ | with_reducible refine Chg.drew ?_ | (refine Chg.set ?_ (by simp <;> omega) _)) (fun i hi he => hBH.out i (by omega))

def LHost.zero : LHost := ⟨⟨0, 0, 0, 0⟩, none, 0, [], none, 0, [], none, 0, [], none, 0, [], 0, 0⟩
theorem LHost.zero_d : LHost.zero.d = DHost.zero := rfl
theorem LHost.zero_own (B : Nat → Prop) (w : World) : OwnHost B w LHost.zero :=
  ⟨Row.nil (own_nil _ _ _ _) (fun g h => by simp [LHost.zero, Value.ownBlock] at h), Row.nil (own_nil _ _ _ _) (fun g h => by simp [LHost.zero, Value.ownBlock] at h), Row.nil (own_nil _ _ _ _) (fun g h => by simp [LHost.zero, Value.ownBlock] at h), Row.nil (own_nil _ _ _ _) (fun g h => by simp [LHost.zero, Value.ownBlock] at h)⟩
theorem HostSz.same {h x : LHost} (H : HostSz h) (e : x.d = h.d) : HostSz x := by
  have e1 : x.filters = h.filters := congrArg DHost.filters e
  have e2 : x.boxes.map LBox.d = h.boxes.map LBox.d := congrArg DHost.boxes e
  have e3 : x.fifo.map LFrame.d = h.fifo.map LFrame.d := congrArg DHost.fifo e
  have e4 : x.queue.map LEvent.d = h.queue.map LEvent.d := congrArg DHost.queue e
  refine ⟨e1 ▸ H.f, ?_, ?_, ?_, fun z hz => ?_, fun z hz => ?_, fun z hz => ?_⟩
  · have := congrArg List.length e2; simp at this; have := H.b; omega
  · have := congrArg List.length e3; simp at this; have := H.q; omega
  · have := congrArg List.length e4; simp at this; have := H.e; omega
  · have : z.d ∈ h.boxes.map LBox.d := e2 ▸ List.mem_map_of_mem hz
    obtain ⟨y, hy, h1⟩ := List.mem_map.1 this
    have h2 := congrArg (fun b : DBox => b.f.data.length) h1
    have h3 : y.f.data.length = z.f.data.length := h2
    have := H.bd y hy; omega
  · have : z.d ∈ h.fifo.map LFrame.d := e3 ▸ List.mem_map_of_mem hz
    obtain ⟨y, hy, h1⟩ := List.mem_map.1 this
    have h2 := congrArg (fun b : DFrame => b.data.length) h1
    have h3 : y.data.length = z.data.length := h2
    have := H.qd y hy; omega
  · have : z.d ∈ h.queue.map LEvent.d := e4 ▸ List.mem_map_of_mem hz
    obtain ⟨y, hy, h1⟩ := List.mem_map.1 this
    have h2 := congrArg (fun b : DEvent => b.f.data.length) h1
    have h3 : y.f.data.length = z.f.data.length := h2
    have := H.ed y hy; omega
/-- What Release answers. -/
def DHost.releaseF (h : DHost) (sent : Bool) : DHost := if h.Ok then h.release sent else DHost.zero

set_option maxHeartbeats 4000000 in
set_option maxRecDepth 100000 in
theorem ReleaseS_any (w : World) (h : LHost) (sent : Bool) (hz : HostSz h) (a1 a2 a3 a4 : TypeId) (H : HostR p a1 a2 a3 a4 w h) :
    Calls Try.prog 7 #[.agg #[.int .i64 h.cfg.boxes, .int .i64 h.cfg.fifo, .int .i64 h.cfg.policy, .int .i64 h.cfg.events, .slice h.fA h.filters.length h.fc, .slice h.bA h.boxes.length h.bc, .slice h.qA h.fifo.length h.qc, .slice h.eA h.queue.length h.ec, .int .i64 h.lost, .int .i64 h.stamp], .bool sent] w
      (Ret hv fun x w' => x.d = h.d.releaseF sent ∧ OwnHost (fun b => w.heap.size ≤ b) w' x ∧ Below w.heap.size w w') := by
  have R : Hid _ := fun W (k : Below w.heap.size w W) => H.below k
  clear H
  go_enter Try.func7, Try.ntmps7
  go_wp2_with fail
  have k0 := heap_old (.cells hzero 37) (heap_new (W := w) (.cells (hostCells h) 37) _ rfl)
  have k1 := heap_new (W := w.alloc (.cells (hostCells h) 37)) (.cells hzero 37) (w.heap.size + 1) (by simp)
  refine (l3ok_any _ h hz _ _ _ _ (R.out _ (by exact (by repeat first | with_reducible exact Below.refl _ _ | with_reducible assumption | with_reducible refine bl_alloc ?_ _ | with_reducible refine bl_drewN ?_ _ | with_reducible refine Below.drew ?_ | (refine bl_set ?_ (by simp <;> omega) _))))).mono ?_; rintro e w1 ⟨rfl, hbb⟩
  have g1 : Below w.heap.size w w1 := bl_then (by repeat first | with_reducible exact Below.refl _ _ | with_reducible assumption | with_reducible refine bl_alloc ?_ _ | with_reducible refine bl_drewN ?_ _ | with_reducible refine Below.drew ?_ | (refine bl_set ?_ (by simp <;> omega) _)) hbb
  replace k0 := heap_below hbb k0
  replace k1 := heap_below hbb k1
  have zz1 := lt_of_heap k1
  have zz0 := lt_of_heap k0
  obtain ⟨c0, c1, c2, c3, c4, c5, c6, c7, c8, c9, cf⟩ := ten k0
  obtain ⟨d0, d1, d2, d3, d4, d5, d6, d7, d8, d9, df⟩ := ten k1
  have K1 : Hid _ := k1
  clear k0 k1 hbb
  by_cases ok : h.d.Ok
  · rw [decide_eq_true ok]
    have OK : Hid _ := ok
    clear ok
    go_wp2_with fail
    clear c0 c1 c2 c3 c4 c5 c6 c7 c8 c9 cf d0 d1 d2 d3 d4 d5 d6 d7 d8 d9 df
    refine (l3copy_any _ h hz _ _ _ _ (R.out _ g1)).mono ?_; rintro e w2 ⟨x, rfl, hx, hO, hbb⟩
    have k1 := heap_below hbb K1.out
    have HX : Hid _ := hx
    have hz2 : HostSz x := hz.same hx
    have hl : 0 ≤ x.lost := by have : x.lost = h.lost := congrArg DHost.lost hx; rw [this]; exact OK.out.l0
    have g2 := bl_then g1 hbb
    clear hx g1
    go_wp2_with fail
    refine (l3doRelease_any _ x sent (fun b => w1.heap.size ≤ b) (fun i hi => by have := hbb.size; omega) hO hz2 hl).mono ?_; rintro e w3 ⟨y, rfl, hy, hO3, hch⟩
    have k3 := heap_chg hch k1 (by omega)
    have zz3 := lt_of_heap k3
    have HY : Hid _ := hy
    have g3 : Below w.heap.size w w3 := bl_chg g2 hch (fun i hi => by omega)
    have HO3 : Hid _ := hO3
    obtain ⟨d0, d1, d2, d3, d4, d5, d6, d7, d8, d9, df⟩ := ten k3
    clear k1 k3 hy hch hO hO3 hbb
    unfold hv
    go_wp2_with fail
    refine bodyPost_ret (v := hv y) (by simp [results, Try.results7, go_sem, hv, *]) rfl (Ret.mk y rfl ⟨?_, ?_, (by repeat first | with_reducible exact Below.refl _ _ | with_reducible assumption | with_reducible refine bl_alloc ?_ _ | with_reducible refine bl_drewN ?_ _ | with_reducible refine Below.drew ?_ | (refine bl_set ?_ (by simp <;> omega) _))⟩)
    · rw [HY.out, HX.out]; unfold DHost.releaseF; rw [if_pos OK.out]
    · exact (HO3.out.chg (S := fun i => i = w.heap.size + 1) (by repeat first | with_reducible exact Chg.refl _ _ | with_reducible assumption | with_reducible refine Chg.alloc ?_ _ | with_reducible refine Chg.drewN ?_ _ | with_reducible refine Chg.drew ?_ | (refine Chg.set ?_ (by simp <;> omega) _)) (fun i hi _ => by omega)).mono (fun i hi _ => by omega)
  · rw [decide_eq_false ok]
    have OK : Hid _ := ok
    clear ok
    go_wp2_with fail
    refine bodyPost_ret (v := hv LHost.zero) (by simp [results, Try.results7, go_sem, hv, LHost.zero, *]) rfl (Ret.mk LHost.zero rfl ⟨?_, LHost.zero_own _ _, (by repeat first | with_reducible exact Below.refl _ _ | with_reducible assumption | with_reducible refine bl_alloc ?_ _ | with_reducible refine bl_drewN ?_ _ | with_reducible refine Below.drew ?_ | (refine bl_set ?_ (by simp <;> omega) _))⟩)
    unfold DHost.releaseF; rw [if_neg OK.out]; rfl
end Go.Proofs.Ytcfhjmflnochcaa
