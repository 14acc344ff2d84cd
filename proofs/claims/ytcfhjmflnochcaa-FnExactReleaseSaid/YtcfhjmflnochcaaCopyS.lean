/-
  The reference's copies of boxes, events and whole hosts.
-/
import Derived.Test.YtcfhjmflnochcaaCopy
import Derived.Test.YtcfhjmflnochcaaHeldHost
set_option linter.unusedVariables false
set_option linter.unusedSimpArgs false
namespace Go.Proofs.Ytcfhjmflnochcaa
open Go.RowKit
variable {p q : Prop}

set_option maxRecDepth 100000 in
theorem l3copyBox_any (w : World) (x : LBox) (hl : x.f.data.length ≤ 1099511627776) (hf : FrameR p w x.f) :
    Calls Try.prog 68 #[.agg #[.int .i64 x.state, .int .i64 x.tag, .int .i64 x.stamp, .bool x.f.ext, .int .u32 x.f.id, .bool x.f.rtr, .int .i64 x.f.dlc, .slice x.f.A x.f.data.length x.f.cap]] w
      fun e w' => ∃ A c, e = .returned (.agg #[.int .i64 x.state, .int .i64 x.tag, .int .i64 x.stamp, .bool x.f.ext, .int .u32 x.f.id, .bool x.f.rtr, .int .i64 x.f.dlc, .slice A x.f.data.length c]) ∧ BytesR True w' A x.f.data ∧ InA w.heap.size w'.heap.size A ∧ Below w.heap.size w w' := by
  have hf1 := fun W (h : Below w.heap.size w W) => hf.below h
  clear hf
  go_enter Try.func68, Try.ntmps68
  go_wp2_with fail
  have h0 := heap_old (.cells #[.int .i64 0, .int .i64 0, .int .i64 0, .bool false, .int .u32 0, .bool false, .int .i64 0, .slice none 0 0] 98) (heap_new (W := w) (.cells #[.int .i64 x.state, .int .i64 x.tag, .int .i64 x.stamp, .bool x.f.ext, .int .u32 x.f.id, .bool x.f.rtr, .int .i64 x.f.dlc, .slice x.f.A x.f.data.length x.f.cap] 98) _ rfl)
  have h1 := heap_new (W := w.alloc (.cells #[.int .i64 x.state, .int .i64 x.tag, .int .i64 x.stamp, .bool x.f.ext, .int .u32 x.f.id, .bool x.f.rtr, .int .i64 x.f.dlc, .slice x.f.A x.f.data.length x.f.cap] 98)) (.cells #[.int .i64 0, .int .i64 0, .int .i64 0, .bool false, .int .u32 0, .bool false, .int .i64 0, .slice none 0 0] 98) (w.heap.size + 1) (by simp)
  refine (l1copyFrame_any _ x.f hl (hf1 _ (by repeat first | with_reducible exact Below.refl _ _ | with_reducible assumption | with_reducible refine bl_alloc ?_ _ | with_reducible refine bl_drewN ?_ _ | with_reducible refine Below.drew ?_ | (refine bl_set ?_ (by simp <;> omega) _)))).mono ?_; rintro e w1 ⟨A, c, rfl, R, G, hb⟩
  replace h0 := heap_below hb h0
  replace h1 := heap_below hb h1
  have hB : Below w.heap.size w w1 := bl_then (by repeat first | with_reducible exact Below.refl _ _ | with_reducible assumption | with_reducible refine bl_alloc ?_ _ | with_reducible refine bl_drewN ?_ _ | with_reducible refine Below.drew ?_ | (refine bl_set ?_ (by simp <;> omega) _)) hb
  replace G : InA (w.heap.size + 2) w1.heap.size A := fun a ha => by have := G a ha; simp at this; omega
  obtain ⟨c0, c1, c2, c3, c4, c5, c6, c7, cf⟩ := eight h0
  obtain ⟨d0, d1, d2, d3, d4, d5, d6, d7, df⟩ := eight h1
  have z0 := lt_of_heap h0
  have z1 := lt_of_heap h1
  clear h0 h1 hb hf1
  go_wp2_with fail
  refine bodyPost_ret (v := .agg #[.int .i64 x.state, .int .i64 x.tag, .int .i64 x.stamp, .bool x.f.ext, .int .u32 x.f.id, .bool x.f.rtr, .int .i64 x.f.dlc, .slice A x.f.data.length c]) (by simp [results, Try.results68, go_sem, *]) rfl ⟨A, c, rfl, ?_, fun a ha => by have := G a ha; simp; omega, (by repeat first | with_reducible exact Below.refl _ _ | with_reducible assumption | with_reducible refine bl_alloc ?_ _ | with_reducible refine bl_drewN ?_ _ | with_reducible refine Below.drew ?_ | (refine bl_set ?_ (by simp <;> omega) _))⟩
  exact Cells.chg (S := fun k => k = w.heap.size ∨ k = w.heap.size + 1) R (by repeat first | with_reducible exact Chg.refl _ _ | with_reducible assumption | with_reducible refine Chg.alloc ?_ _ | with_reducible refine Chg.drewN ?_ _ | with_reducible refine Chg.drew ?_ | (refine Chg.set ?_ (by simp <;> omega) _)) (fun a ha => by have := G a ha; omega)

theorem one_box (x : LBox) : ∀ u ∈ x.cs, u.oneCell' = true := by
  intro u hu
  simp [LBox.cs] at hu
  rcases hu with h | h | h | h | h | h | h | h <;> subst h <;> rfl
theorem one_event (x : LEvent) : ∀ u ∈ x.cs, u.oneCell' = true := by
  intro u hu
  simp [LEvent.cs] at hu
  rcases hu with h | h | h | h | h | h | h | h <;> subst h <;> rfl
theorem one_frame (x : LFrame) : ∀ u ∈ x.cs, u.oneCell' = true := by
  intro u hu
  simp [LFrame.cs] at hu
  rcases hu with h | h | h | h | h <;> subst h <;> rfl
theorem one_filter (x : DFilter) : ∀ u ∈ x.cs, u.oneCell' = true := by
  intro u hu
  simp [DFilter.cs] at hu
  rcases hu with h | h | h <;> subst h <;> rfl

/-- What lies in a block of another type is not touched by an append to a row. -/
theorem Cells.grownTy {w w1 : World} {e e' : TypeId} {A : Option Addr} {cs : List Value} {base size n : Nat} {v : Value} {xs : List Value} (h : Cells True w e A cs) (hg : w.grownBy w1 v.ownBlock) (ho : w.ownsRow base e' size v n xs) (hne : e ≠ e') : Cells True w1 e A cs :=
  h.keep fun g _ _ hlt ⟨all, e2, fr, ht, h2⟩ => hg.block g hlt fun he => by
    obtain rfl := h2 trivial
    obtain ⟨cs', hc⟩ := own_type ho he.symm
    rw [hc] at ht
    injection ht with ht
    injection ht with _ ht
    exact hne ht.symm
theorem own_below {w w' : World} {base n : Nat} {e : TypeId} {size : Nat} {v : Value} {xs : List Value} (h : w.ownsRow base e size v n xs) (k : Below w.heap.size w w') : w'.ownsRow base e size v n xs := own_keep h fun g _ hg => k.block g hg
theorem own_chg {w w' : World} {S : Nat → Prop} {base n : Nat} {e : TypeId} {size : Nat} {v : Value} {xs : List Value} (h : w.ownsRow base e size v n xs) (c : Chg S w w') (hs : ∀ g, v.ownBlock = some g → ¬ S g) : w'.ownsRow base e size v n xs := own_keep h fun g hg hl => c.block g hl (hs g hg)
theorem snoc_map {α β : Type} {f : α → β} {es xs : List α} {k : Nat} (hk : k < xs.length) (h : es.map f = (xs.take k).map f) {y : α} (hy : f y = f xs[k]) : (es ++ [y]).map f = (xs.take (k + 1)).map f := by
  rw [List.take_succ_eq_append_getElem hk, List.map_append, List.map_append, h]
  simp [hy]
theorem snoc_flat {α : Type} {enc : α → List Value} (es : List α) (y : α) : (es ++ [y]).flatMap enc = es.flatMap enc ++ enc y := by simp [List.flatMap_append]

set_option maxHeartbeats 1000000 in
set_option maxRecDepth 100000 in
theorem l3copyEvents_any (w : World) (A0 : Option Addr) (c0 : Nat) (e1 : TypeId) (xs : List LEvent) (lx : xs.length ≤ 4194304) (ld : ∀ x ∈ xs, x.f.data.length ≤ 4194304) (hx : EventsR p w e1 A0 xs) :
    Calls Try.prog 70 #[.slice A0 xs.length c0] w (Ret (fun r : (Option Addr × Nat) × List LEvent => .slice r.1.1 r.2.length r.1.2)
      fun r w' => r.2.map LEvent.d = xs.map LEvent.d ∧ w'.ownsRow w.heap.size 95 8 (.slice r.1.1 r.2.length r.1.2) r.2.length (r.2.flatMap LEvent.cs) ∧ (∀ x ∈ r.2, FrameR True w' x.f) ∧ (∀ x ∈ r.2, InA w.heap.size w'.heap.size x.f.A) ∧ Below w.heap.size w w') := by
  have R : Hid _ := fun W (h : Below w.heap.size w W) => hx.below h
  clear hx
  go_enter Try.func70, Try.ntmps70
  go_wp2_with fail
  go_loopw [3, 4] (fun d i wr => ∃ (k : Nat) (A : Option Addr) (c : Nat) (es : List LEvent), k ≤ xs.length ∧ i = .int .i64 k ∧ d = .slice A k c ∧ Hid (es.length = k) ∧ wr.ownsRow w.heap.size 95 8 (.slice A k c) k (es.flatMap LEvent.cs) ∧ Hid (∀ x ∈ es, FrameR True wr x.f) ∧ Hid (∀ x ∈ es, InA w.heap.size wr.heap.size x.f.A) ∧ Hid (es.map LEvent.d = (xs.take k).map LEvent.d) ∧ Below w.heap.size w wr) (fun _ i _ => xs.length - (intOf i).toNat)
  case atStart => exact ⟨0, _, _, [], by omega, rfl, rfl, rfl, own_empty _ _ _ _ (by simp) _ (by simp), by simp [Hid], by simp [Hid], by simp [Hid], (by repeat first | with_reducible exact Below.refl _ _ | with_reducible assumption | with_reducible refine bl_alloc ?_ _ | with_reducible refine bl_drewN ?_ _ | with_reducible refine Below.drew ?_ | (refine bl_set ?_ (by simp <;> omega) _))⟩
  case round =>
    obtain ⟨k, A, c, es, hk, rfl, rfl, hes, hown, hR, hI, hm, hb⟩ := hrel
    by_cases hlt : k < xs.length
    · obtain ⟨g, o, rfl, hg, ⟨d0, d1, d2, d3, d4, d5, d6, d7⟩⟩ := eventAt (R.out wr hb).1 k hlt
      have HF : Hid _ := (R.out wr hb).2 _ (List.getElem_mem hlt)
      have HD : Hid _ := ld _ (List.getElem_mem hlt)
      obtain ⟨x, hx⟩ : ∃ x, x = xs[k] := ⟨_, rfl⟩
      rw [← hx] at d0 d1 d2 d3 d4 d5 d6 d7 HF HD
      have HX : Hid _ := hx
      have HO : Hid _ := hown
      clear hx hown
      go_wp2_with fail
      have zw := hb.size
      have hlo : Hid (∀ g, (Value.slice A k c).ownBlock = some g → g < wr.heap.size) := fun g hg => own_lt HO.out hg
      refine (l1copyFrame_any _ x.f (by have := HD.out; omega) (HF.out.below (by exact (by repeat first | with_reducible exact Below.refl _ _ | with_reducible assumption | with_reducible refine bl_alloc ?_ _ | with_reducible refine bl_drewN ?_ _ | with_reducible refine Below.drew ?_ | (refine bl_set ?_ (by simp <;> omega) _))))).mono ?_; rintro e w1 ⟨A', c', rfl, R', G', hbb⟩
      have hx1 := heap_below hbb (heap_new (W := wr) _ _ rfl)
      have g1 : Below wr.heap.size wr w1 := bl_then (by exact (by repeat first | with_reducible exact Below.refl _ _ | with_reducible assumption | with_reducible refine bl_alloc ?_ _ | with_reducible refine bl_drewN ?_ _ | with_reducible refine Below.drew ?_ | (refine bl_set ?_ (by simp <;> omega) _))) hbb
      have own1 := own_below HO.out g1
      replace G' : InA (wr.heap.size + 1) w1.heap.size A' := fun a ha => by have := G' a ha; simp at this; omega
      have hb1 := bl_then hb g1
      have hR1 : Hid (∀ x ∈ es, FrameR True w1 x.f) := fun x hx => (hR.out x hx).below g1
      have zg := g1.size
      have zx := lt_of_heap hx1
      clear hR hbb g1 hb d0 d1 d2 d3 d4 d5 d6 d7 HO
      obtain ⟨y, hy⟩ : ∃ y : LEvent, y = ⟨x.kind, x.a, x.b, ⟨x.f.ext, x.f.id, x.f.rtr, x.f.dlc, A', c', x.f.data⟩⟩ := ⟨_, rfl⟩
      obtain ⟨d0, d1, d2, d3, d4, d5, d6, d7, df⟩ := eight hx1
      have HY : Hid _ := hy
      have HX1 : Hid _ := hx1
      have HO : Hid _ := own1
      have HR' : Hid _ := R'
      clear hy hx1 own1 R'
      go_wp2_with (at_builtin; refine wpl_app _ rfl (.tmp 21) (.tmp 23) 35 rfl w.heap.size 95 _ 8 72 Try.underlying35 infoEvent rfl (by omega) (by omega) _ k _ rfl (by exact own_chg (S := fun b => b = wr.heap.size) HO.out (by repeat first | with_reducible exact Chg.refl _ _ | with_reducible assumption | with_reducible refine Chg.alloc ?_ _ | with_reducible refine Chg.drewN ?_ _ | with_reducible refine Chg.drew ?_ | (refine Chg.set ?_ (by simp <;> omega) _)) (fun g hg => by have := hlo.out g hg; omega)) 95 _ 1 1 y.cs rfl (by rw [HY.out]; exact cells_new _ [_, _, _, _, _, _, _, _] _ _ (by simp)) rfl (one_event _) (by omega) (by simp; omega) ?_)
      intro A2 c2 w2 hown2 hgrow hloc
      have hb2 : Below w.heap.size w w2 := bl_grown (by exact (by repeat first | with_reducible exact Below.refl _ _ | with_reducible assumption | with_reducible refine bl_alloc ?_ _ | with_reducible refine bl_drewN ?_ _ | with_reducible refine Below.drew ?_ | (refine bl_set ?_ (by simp <;> omega) _))) hgrow (fun g hg => own_ge HO.out hg)
      have zg2 := hgrow.size
      simp only [World.size_alloc, World.size_setCell] at zg2
      have hD : Hid (∀ z ∈ es ++ [y], FrameR True w2 z.f) := fun z hz => by
        refine Cells.grownTy (hg := hgrow) (ho := by exact own_chg (S := fun b => b = wr.heap.size) HO.out (by repeat first | with_reducible exact Chg.refl _ _ | with_reducible assumption | with_reducible refine Chg.alloc ?_ _ | with_reducible refine Chg.drewN ?_ _ | with_reducible refine Chg.drew ?_ | (refine Chg.set ?_ (by simp <;> omega) _)) (fun g hg => by have := hlo.out g hg; omega)) (hne := by decide) (h := ?_)
        refine Cells.chg (w := w1) (S := fun b => b = wr.heap.size) ?_ (by repeat first | with_reducible exact Chg.refl _ _ | with_reducible assumption | with_reducible refine Chg.alloc ?_ _ | with_reducible refine Chg.drewN ?_ _ | with_reducible refine Chg.drew ?_ | (refine Chg.set ?_ (by simp <;> omega) _)) ?_
        · rcases List.mem_append.1 hz with hz | hz
          · exact hR1.out z hz
          · have hz := List.mem_singleton.1 hz
            subst hz
            rw [HY.out]
            exact HR'.out
        · intro a ha
          rcases List.mem_append.1 hz with hz | hz
          · have := hI.out z hz a ha; omega
          · have hz := List.mem_singleton.1 hz
            subst hz
            rw [HY.out] at ha
            have := G' a ha; omega
      have hI2 : Hid (∀ z ∈ es ++ [y], InA w.heap.size w2.heap.size z.f.A) := fun z hz a ha => by
        rcases List.mem_append.1 hz with hz | hz
        · have := hI.out z hz a ha; omega
        · have hz := List.mem_singleton.1 hz
          subst hz
          rw [HY.out] at ha
          have := G' a ha; omega
      rw [← snoc_flat] at hown2
      have HO2 : Hid _ := hown2
      clear hgrow hloc hown2 d0 d1 d2 d3 d4 d5 d6 d7 df
      go_wp2_with fail
      go_roundw
      case rel =>
        refine ⟨k + 1, A2, c2, es ++ [y], by omega, by go_num, rfl, ?_, HO2.out, hD, hI2, snoc_map hlt hm ?_, hb2⟩
        · have := hes.out
          simp [Hid, this]
        · rw [HY.out, ← HX.out]; rfl
      case measure => simp [intOf]; omega
    · have HE : Hid _ := hlt
      have HO : Hid _ := hown
      clear hown
      go_wp2_with fail
      go_ret
      have el := hes.out
      have hm' := hm.out
      rw [List.take_of_length_le (by have := HE.out; omega)] at hm'
      subst el
      exact Ret.mk ((A, c), es) rfl ⟨hm', HO.out, hR.out, hI.out, hb⟩
end Go.Proofs.Ytcfhjmflnochcaa
