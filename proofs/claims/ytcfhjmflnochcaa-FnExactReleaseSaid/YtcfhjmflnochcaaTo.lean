/-
  The copying functions of the laws: what they hand back is new memory that reads as what came in.
-/
import Derived.Test.YtcfhjmflnochcaaCopy
set_option linter.unusedVariables false
set_option linter.unusedSimpArgs false
namespace Go.Proofs.Ytcfhjmflnochcaa
open Go.RowKit
variable {p q : Prop}

theorem take_set_eq {α : Type} {xs ys : List α} {k : Nat} (h : ys.take k = xs.take k) (hk : k < xs.length) (hy : k < ys.length) : (ys.set k xs[k]).take (k + 1) = xs.take (k + 1) := by
  rw [List.take_succ_eq_append_getElem (by simpa using hy), List.take_succ_eq_append_getElem hk, List.getElem_set_self, List.take_set_of_le (Nat.le_refl k), h]

theorem three {w : World} {b : Nat} {a0 a1 a2 : Value} {e : TypeId} (h : w.heap[b]? = some (.cells #[a0, a1, a2] e (0, 0))) :
    w.cell? ⟨b, 0, none⟩ = some a0 ∧ w.cell? ⟨b, 1, none⟩ = some a1 ∧ w.cell? ⟨b, 2, none⟩ = some a2 ∧ ∀ i, w.frozen? ⟨b, i, none⟩ = false :=
  ⟨cell_at h 0 _ rfl, cell_at h 1 _ rfl, cell_at h 2 _ rfl, frozen_at h⟩
theorem four {w : World} {b : Nat} {a0 a1 a2 a3 : Value} {e : TypeId} (h : w.heap[b]? = some (.cells #[a0, a1, a2, a3] e (0, 0))) :
    w.cell? ⟨b, 0, none⟩ = some a0 ∧ w.cell? ⟨b, 1, none⟩ = some a1 ∧ w.cell? ⟨b, 2, none⟩ = some a2 ∧ w.cell? ⟨b, 3, none⟩ = some a3 ∧ ∀ i, w.frozen? ⟨b, i, none⟩ = false :=
  ⟨cell_at h 0 _ rfl, cell_at h 1 _ rfl, cell_at h 2 _ rfl, cell_at h 3 _ rfl, frozen_at h⟩

theorem toFilter_any (w : World) (f : DFilter) :
    Calls Try.prog 71 #[.agg #[.bool f.ext, .int .u32 f.mask, .int .u32 f.mtch]] w
      fun e w' => e = .returned (.agg #[.bool f.ext, .int .u32 f.mask, .int .u32 f.mtch]) ∧ Below w.heap.size w w' := by
  go_enter Try.func71, Try.ntmps71
  go_wp2_with fail
  exact bodyPost_ret (v := .agg #[.bool f.ext, .int .u32 f.mask, .int .u32 f.mtch]) (by simp [results, Try.results71, go_sem]) rfl ⟨rfl, (by repeat first | with_reducible exact Below.refl _ _ | with_reducible assumption | with_reducible refine bl_alloc ?_ _ | with_reducible refine bl_drewN ?_ _ | with_reducible refine Below.drew ?_ | (refine bl_set ?_ (by simp <;> omega) _))⟩
theorem toConfig_any (w : World) (f : DConfig) :
    Calls Try.prog 28 #[.agg #[.int .i64 f.boxes, .int .i64 f.fifo, .int .i64 f.policy, .int .i64 f.events]] w
      fun e w' => e = .returned (.agg #[.int .i64 f.boxes, .int .i64 f.fifo, .int .i64 f.policy, .int .i64 f.events]) ∧ Below w.heap.size w w' := by
  go_enter Try.func28, Try.ntmps28
  go_wp2_with fail
  exact bodyPost_ret (v := .agg #[.int .i64 f.boxes, .int .i64 f.fifo, .int .i64 f.policy, .int .i64 f.events]) (by simp [results, Try.results28, go_sem]) rfl ⟨rfl, (by repeat first | with_reducible exact Below.refl _ _ | with_reducible assumption | with_reducible refine bl_alloc ?_ _ | with_reducible refine bl_drewN ?_ _ | with_reducible refine Below.drew ?_ | (refine bl_set ?_ (by simp <;> omega) _))⟩

theorem toByteS_any (w : World) (A : Option Addr) (c1 : Nat) (xs : List Int) (lx : xs.length ≤ 1099511627776) (hx : BytesR p w A xs) :
    Calls Try.prog 52 #[.slice A xs.length c1] w (Ret (fun x : Option Addr × Nat => .slice x.1 xs.length x.2) fun x w' => BytesR True w' x.1 xs ∧ InA w.heap.size w'.heap.size x.1 ∧ Below w.heap.size w w') := by
  obtain ⟨i0, hi, hz0, hz1, hz2⟩ := info_parts infoByte
  have hf1 := fun W (h : Below w.heap.size w W) => BytesR.below hx h
  clear hx
  go_enter Try.func52, Try.ntmps52
  go_wp2_with (at_make; refine wpList_make_full _ rfl (.tmp 6) (.tmp 6) 44 rfl w.heap.size 5 i0 (.int .u8 0) 1 Try.underlying44 hi hz0 hz1 .i64 .i64 _ _ xs.length rfl rfl rfl rfl (by rw [hz2]; omega) (by simp only [maxLen]; omega) (by simp) ?_)
  intro w1 hown hgrow
  have hown : w1.ownsRow w.heap.size 5 1 (.slice (some ⟨w.heap.size, 0, none⟩) xs.length xs.length) xs.length ((List.replicate xs.length (0 : Int)).flatMap cByte) := by
    rw [← made_flat cByte_len 0 xs.length (by omega), Nat.mul_one]
    exact hown
  have hb := bl_grown (Below.refl w.heap.size w) hgrow (by simp)
  clear hgrow
  go_wp2_with fail
  go_loopw [4] (fun i wr => ∃ (k : Nat) (ys : List Int), k ≤ xs.length ∧ i = .int .i64 k ∧ ys.length = xs.length ∧ ys.take k = xs.take k ∧ wr.ownsRow w.heap.size 5 1 (.slice (some ⟨w.heap.size, 0, none⟩) xs.length xs.length) xs.length (ys.flatMap cByte) ∧ Below w.heap.size w wr) (fun i _ => xs.length - (intOf i).toNat)
  case atStart => exact ⟨0, _, by omega, rfl, by simp, by simp, hown, hb⟩
  case round =>
    clear hb hown
    obtain ⟨k, ys, hk, rfl, hl, ht, hown, hb⟩ := hrel
    have HL : Hid _ := hl
    have HT : Hid _ := ht
    clear hl ht
    by_cases hlt : k < xs.length
    · obtain ⟨g, o, rfl, hg, ⟨e0⟩⟩ := byteAt (hf1 wr hb) k hlt
      have hc := hown.cellAt k (by omega)
      have hfz := hown.frozenAt k
      have hkl : k < ys.length := by rw [HL.out]; exact hlt
      have hc' : wr.cell? ⟨w.heap.size, k, none⟩ = some (.int .u8 ys[k]) := by
        rw [hc]; have := flatMap_get cByte_len ys k 0 hkl (by omega); simpa [cByte] using this
      have hown' := put1 cByte_len hown k hkl xs[k] rfl
      have hb' := bl_set hb (p := ⟨w.heap.size, k, none⟩) (Nat.le_refl _) (.int .u8 xs[k])
      clear hf1 hc hown
      go_wp2_with fail
      go_roundw
      case rel => exact ⟨k + 1, ys.set k xs[k], by omega, by go_num, by rw [List.length_set, HL.out], take_set_eq HT.out hlt hkl, hown', hb'⟩
      case measure => simp [intOf]; omega
    · obtain rfl : k = xs.length := by omega
      have hy : ys = xs := by have := HT.out; rwa [List.take_length, ← HL.out, List.take_length] at this
      subst hy
      go_wp2_with fail
      exact bodyPost_ret (v := .slice (some ⟨w.heap.size, 0, none⟩) ys.length ys.length) (by simp [results, Try.results52, go_sem]) rfl (Ret.mk (_, _) rfl ⟨own_cells hown, own_in hown, hb⟩)

theorem toFrame_any (w : World) (f : LFrame) (hl : f.data.length ≤ 1099511627776) (hf : FrameR p w f) :
    Calls Try.prog 15 #[.agg #[.bool f.ext, .int .u32 f.id, .bool f.rtr, .int .i64 f.dlc, .slice f.A f.data.length f.cap]] w
      fun e w' => ∃ A c, e = .returned (.agg #[.bool f.ext, .int .u32 f.id, .bool f.rtr, .int .i64 f.dlc, .slice A f.data.length c]) ∧ BytesR True w' A f.data ∧ InA w.heap.size w'.heap.size A ∧ Below w.heap.size w w' := by
  have hf1 := fun W (h : Below w.heap.size w W) => FrameR.below hf h
  clear hf
  go_enter Try.func15, Try.ntmps15
  go_wp2_with fail
  refine (toByteS_any _ _ _ _ hl (hf1 _ (by repeat first | with_reducible exact Below.refl _ _ | with_reducible assumption | with_reducible refine bl_alloc ?_ _ | with_reducible refine bl_drewN ?_ _ | with_reducible refine Below.drew ?_ | (refine bl_set ?_ (by simp <;> omega) _)))).mono ?_; rintro e w1 ⟨⟨A, c⟩, rfl, hR, hA, hb⟩
  have h1 : w1.heap[w.heap.size + 1]? = some (.cells #[.bool false, .int .u32 0, .bool false, .int .i64 0, .slice none 0 0] 49 (0, 0)) := heap_below hb (heap_old _ (heap_new _ _ (by simp)))
  have h2 : w1.heap[w.heap.size + 1 + 1]? = some (.cells #[.bool f.ext, .int .u32 f.id, .bool f.rtr, .int .i64 f.dlc, .slice none 0 0] 49 (0, 0)) := heap_below hb (heap_new _ _ (by simp))
  have hB : Below w.heap.size w w1 := bl_then (by repeat first | with_reducible exact Below.refl _ _ | with_reducible assumption | with_reducible refine bl_alloc ?_ _ | with_reducible refine bl_drewN ?_ _ | with_reducible refine Below.drew ?_ | (refine bl_set ?_ (by simp <;> omega) _)) hb
  obtain ⟨c0, c1, c2, c3, c4, cf⟩ := five h1
  obtain ⟨d0, d1, d2, d3, d4, df⟩ := five h2
  have z1 := lt_of_heap h1
  have z2 := lt_of_heap h2
  have hA2 : InA (w.heap.size + 1 + 1 + 1) w1.heap.size A := by simpa using hA
  clear hf1 hA hb h1 h2
  go_wp2_with fail
  refine bodyPost_ret (v := .agg #[.bool f.ext, .int .u32 f.id, .bool f.rtr, .int .i64 f.dlc, .slice A f.data.length c]) (by simp [results, Try.results15, go_sem, *]) rfl ⟨A, c, rfl, ?_, fun a ha => by have := hA2 a ha; simp; omega, ?_⟩
  · exact Cells.chg (S := fun k => k = w.heap.size + 1 ∨ k = w.heap.size + 1 + 1) hR (by repeat first | with_reducible exact Chg.refl _ _ | with_reducible assumption | with_reducible refine Chg.alloc ?_ _ | with_reducible refine Chg.drewN ?_ _ | with_reducible refine Chg.drew ?_ | (refine Chg.set ?_ (by simp <;> omega) _)) (fun a ha => by have := hA2 a ha; omega)
  · exact (by repeat first | with_reducible exact Below.refl _ _ | with_reducible assumption | with_reducible refine bl_alloc ?_ _ | with_reducible refine bl_drewN ?_ _ | with_reducible refine Below.drew ?_ | (refine bl_set ?_ (by simp <;> omega) _))

theorem toBox_any (w : World) (f : LBox) (hl : f.f.data.length ≤ 1099511627776) (hf : FrameR p w f.f) :
    Calls Try.prog 72 #[.agg #[.int .i64 f.state, .int .i64 f.tag, .int .i64 f.stamp, .bool f.f.ext, .int .u32 f.f.id, .bool f.f.rtr, .int .i64 f.f.dlc, .slice f.f.A f.f.data.length f.f.cap]] w
      fun e w' => ∃ A c, e = .returned (.agg #[.int .i64 f.state, .int .i64 f.tag, .int .i64 f.stamp, .bool f.f.ext, .int .u32 f.f.id, .bool f.f.rtr, .int .i64 f.f.dlc, .slice A f.f.data.length c]) ∧ BytesR True w' A f.f.data ∧ InA w.heap.size w'.heap.size A ∧ Below w.heap.size w w' := by
  have hf1 := fun W (h : Below w.heap.size w W) => FrameR.below hf h
  clear hf
  go_enter Try.func72, Try.ntmps72
  go_wp2_with fail
  refine (toFrame_any _ f.f hl (hf1 _ (by repeat first | with_reducible exact Below.refl _ _ | with_reducible assumption | with_reducible refine bl_alloc ?_ _ | with_reducible refine bl_drewN ?_ _ | with_reducible refine Below.drew ?_ | (refine bl_set ?_ (by simp <;> omega) _)))).mono ?_; rintro e w1 ⟨A, c, rfl, hR, hA, hb⟩
  have h1 : w1.heap[w.heap.size + 1]? = some (.cells #[.int .i64 0, .int .i64 0, .int .i64 0, .bool false, .int .u32 0, .bool false, .int .i64 0, .slice none 0 0] 98 (0, 0)) := heap_below hb (heap_old _ (heap_new _ _ (by simp)))
  have h2 : w1.heap[w.heap.size + 1 + 1]? = some (.cells #[.int .i64 f.state, .int .i64 f.tag, .int .i64 f.stamp, .bool false, .int .u32 0, .bool false, .int .i64 0, .slice none 0 0] 98 (0, 0)) := heap_below hb (heap_new _ _ (by simp))
  have hB : Below w.heap.size w w1 := bl_then (by repeat first | with_reducible exact Below.refl _ _ | with_reducible assumption | with_reducible refine bl_alloc ?_ _ | with_reducible refine bl_drewN ?_ _ | with_reducible refine Below.drew ?_ | (refine bl_set ?_ (by simp <;> omega) _)) hb
  obtain ⟨c0, c1, c2, c3, c4, c5, c6, c7, cf⟩ := eight h1
  obtain ⟨d0, d1, d2, d3, d4, d5, d6, d7, df⟩ := eight h2
  have z1 := lt_of_heap h1
  have z2 := lt_of_heap h2
  have hA2 : InA (w.heap.size + 1 + 1 + 1) w1.heap.size A := by simpa using hA
  clear hf1 hA hb h1 h2
  go_wp2_with fail
  refine bodyPost_ret (v := .agg #[.int .i64 f.state, .int .i64 f.tag, .int .i64 f.stamp, .bool f.f.ext, .int .u32 f.f.id, .bool f.f.rtr, .int .i64 f.f.dlc, .slice A f.f.data.length c]) (by simp [results, Try.results72, go_sem, *]) rfl ⟨A, c, rfl, ?_, fun a ha => by have := hA2 a ha; simp; omega, ?_⟩
  · exact Cells.chg (S := fun k => k = w.heap.size + 1 ∨ k = w.heap.size + 1 + 1) hR (by repeat first | with_reducible exact Chg.refl _ _ | with_reducible assumption | with_reducible refine Chg.alloc ?_ _ | with_reducible refine Chg.drewN ?_ _ | with_reducible refine Chg.drew ?_ | (refine Chg.set ?_ (by simp <;> omega) _)) (fun a ha => by have := hA2 a ha; omega)
  · exact (by repeat first | with_reducible exact Below.refl _ _ | with_reducible assumption | with_reducible refine bl_alloc ?_ _ | with_reducible refine bl_drewN ?_ _ | with_reducible refine Below.drew ?_ | (refine bl_set ?_ (by simp <;> omega) _))

theorem toEvent_any (w : World) (f : LEvent) (hl : f.f.data.length ≤ 1099511627776) (hf : FrameR p w f.f) :
    Calls Try.prog 73 #[.agg #[.int .i64 f.kind, .int .i64 f.a, .int .i64 f.b, .bool f.f.ext, .int .u32 f.f.id, .bool f.f.rtr, .int .i64 f.f.dlc, .slice f.f.A f.f.data.length f.f.cap]] w
      fun e w' => ∃ A c, e = .returned (.agg #[.int .i64 f.kind, .int .i64 f.a, .int .i64 f.b, .bool f.f.ext, .int .u32 f.f.id, .bool f.f.rtr, .int .i64 f.f.dlc, .slice A f.f.data.length c]) ∧ BytesR True w' A f.f.data ∧ InA w.heap.size w'.heap.size A ∧ Below w.heap.size w w' := by
  have hf1 := fun W (h : Below w.heap.size w W) => FrameR.below hf h
  clear hf
  go_enter Try.func73, Try.ntmps73
  go_wp2_with fail
  refine (toFrame_any _ f.f hl (hf1 _ (by repeat first | with_reducible exact Below.refl _ _ | with_reducible assumption | with_reducible refine bl_alloc ?_ _ | with_reducible refine bl_drewN ?_ _ | with_reducible refine Below.drew ?_ | (refine bl_set ?_ (by simp <;> omega) _)))).mono ?_; rintro e w1 ⟨A, c, rfl, hR, hA, hb⟩
  have h1 : w1.heap[w.heap.size + 1]? = some (.cells #[.int .i64 0, .int .i64 0, .int .i64 0, .bool false, .int .u32 0, .bool false, .int .i64 0, .slice none 0 0] 95 (0, 0)) := heap_below hb (heap_old _ (heap_new _ _ (by simp)))
  have h2 : w1.heap[w.heap.size + 1 + 1]? = some (.cells #[.int .i64 f.kind, .int .i64 f.a, .int .i64 f.b, .bool false, .int .u32 0, .bool false, .int .i64 0, .slice none 0 0] 95 (0, 0)) := heap_below hb (heap_new _ _ (by simp))
  have hB : Below w.heap.size w w1 := bl_then (by repeat first | with_reducible exact Below.refl _ _ | with_reducible assumption | with_reducible refine bl_alloc ?_ _ | with_reducible refine bl_drewN ?_ _ | with_reducible refine Below.drew ?_ | (refine bl_set ?_ (by simp <;> omega) _)) hb
  obtain ⟨c0, c1, c2, c3, c4, c5, c6, c7, cf⟩ := eight h1
  obtain ⟨d0, d1, d2, d3, d4, d5, d6, d7, df⟩ := eight h2
  have z1 := lt_of_heap h1
  have z2 := lt_of_heap h2
  have hA2 : InA (w.heap.size + 1 + 1 + 1) w1.heap.size A := by simpa using hA
  clear hf1 hA hb h1 h2
  go_wp2_with fail
  refine bodyPost_ret (v := .agg #[.int .i64 f.kind, .int .i64 f.a, .int .i64 f.b, .bool f.f.ext, .int .u32 f.f.id, .bool f.f.rtr, .int .i64 f.f.dlc, .slice A f.f.data.length c]) (by simp [results, Try.results73, go_sem, *]) rfl ⟨A, c, rfl, ?_, fun a ha => by have := hA2 a ha; simp; omega, ?_⟩
  · exact Cells.chg (S := fun k => k = w.heap.size + 1 ∨ k = w.heap.size + 1 + 1) hR (by repeat first | with_reducible exact Chg.refl _ _ | with_reducible assumption | with_reducible refine Chg.alloc ?_ _ | with_reducible refine Chg.drewN ?_ _ | with_reducible refine Chg.drew ?_ | (refine Chg.set ?_ (by simp <;> omega) _)) (fun a ha => by have := hA2 a ha; omega)
  · exact (by repeat first | with_reducible exact Below.refl _ _ | with_reducible assumption | with_reducible refine bl_alloc ?_ _ | with_reducible refine bl_drewN ?_ _ | with_reducible refine Below.drew ?_ | (refine bl_set ?_ (by simp <;> omega) _))

theorem take_set_map {α β : Type} {f : α → β} {xs : List α} {ys : List α} {k : Nat} {y : α} (h : (ys.take k).map f = (xs.take k).map f) (hk : k < xs.length) (hy : k < ys.length) (e : f y = f xs[k]) : ((ys.set k y).take (k + 1)).map f = (xs.take (k + 1)).map f := by
  rw [List.take_succ_eq_append_getElem (by simpa using hy), List.take_succ_eq_append_getElem hk, List.getElem_set_self, List.take_set_of_le (Nat.le_refl k), List.map_append, List.map_append, h]
  simp [e]
theorem grown_below {w w' : World} (h : Below w.heap.size w w') : w.grownBy w' none := ⟨h.os, h.tape, h.output, h.size, fun i hi _ => h.block i hi⟩

theorem toFilterS_any (w : World) (A : Option Addr) (c1 : Nat) (e1 : TypeId) (xs : List DFilter) (lx : xs.length ≤ 4294967296) (hx : Cells p w e1 A (xs.flatMap DFilter.cs)) :
    Calls Try.prog 29 #[.slice A xs.length c1] w (Ret (fun x : Option Addr × Nat => .slice x.1 xs.length x.2) fun x w' => Cells True w' 102 x.1 (xs.flatMap DFilter.cs) ∧ InA w.heap.size w'.heap.size x.1 ∧ Below w.heap.size w w') := by
  obtain ⟨i0, hi, hz0, hz1, hz2⟩ := info_parts infoFilter
  have hf1 := fun W (h : Below w.heap.size w W) => Cells.below hx h
  clear hx
  go_enter Try.func29, Try.ntmps29
  go_wp2_with (at_make; refine wpList_make_full _ rfl (.tmp 6) (.tmp 6) 32 rfl w.heap.size 102 i0 (.agg #[.bool false, .int .u32 0, .int .u32 0]) 3 Try.underlying32 hi hz0 hz1 .i64 .i64 _ _ xs.length rfl rfl rfl rfl (by rw [hz2]; omega) (by simp only [maxLen]; omega) (by simp) ?_)
  intro w1 hown hgrow
  have hown : w1.ownsRow w.heap.size 102 3 (.slice (some ⟨w.heap.size, 0, none⟩) xs.length xs.length) xs.length ((List.replicate xs.length (⟨false, 0, 0⟩ : DFilter)).flatMap DFilter.cs) := by
    rw [← made_flat DFilter.cs_len _ xs.length (by omega)]
    exact hown
  have hb := bl_grown (Below.refl w.heap.size w) hgrow (by simp)
  clear hgrow
  go_wp2_with fail
  go_loopw [4] (fun i wr => ∃ (k : Nat) (ys : List DFilter), k ≤ xs.length ∧ i = .int .i64 k ∧ ys.length = xs.length ∧ wr.ownsRow w.heap.size 102 3 (.slice (some ⟨w.heap.size, 0, none⟩) xs.length xs.length) xs.length (ys.flatMap DFilter.cs) ∧ Below w.heap.size w wr ∧ ys.take k = xs.take k) (fun i _ => xs.length - (intOf i).toNat)

  case atStart => exact ⟨0, _, by omega, rfl, by simp, hown, hb, by simp⟩
  case round =>
    clear hb hown
    obtain ⟨k, ys, hk, rfl, hl, hown, hb, ht⟩ := hrel
    have HL : Hid _ := hl
    have HT : Hid _ := ht
    clear hl ht
    by_cases hlt : k < xs.length
    · obtain ⟨g, o, rfl, hg, ⟨c0, c1, c2⟩⟩ := filterAt (hf1 wr hb) k hlt
      have hkl : k < ys.length := by rw [HL.out]; exact hlt
      clear hf1
      go_wp2_with fail
      refine (toFilter_any _ xs[k]).mono ?_; rintro e w2 ⟨rfl, hb2⟩
      have hs := hown.kept (grown_below hb2) (.inr (by simp [Value.ownBlock]))
      have hcell : ∀ i, i < 3 → w2.cell? ⟨w.heap.size, k * 3 + i, none⟩ = ys[k].cs[i]? := fun i hi => by
        rw [hs.cellAt _ (by have : k * 3 + 3 ≤ xs.length * 3 := by { rw [← Nat.succ_mul]; exact Nat.mul_le_mul_right _ hlt }; omega)]
        exact flatMap_get DFilter.cs_len ys k i hkl hi
      have d0 := hcell 0 (by omega)
      have d1 := hcell 1 (by omega)
      have d2 := hcell 2 (by omega)
      have df := hs.frozenAt
      have hown' := put3 DFilter.cs_len hs k hkl (xs[k] : DFilter) rfl
      have hB := bl_then hb hb2
      have hz2 : w.heap.size < wr.heap.size := own_lt hown rfl
      have hz3 := hb2.size
      simp only [Nat.add_zero] at d0
      simp only [DFilter.cs, List.getElem?_cons_zero, List.getElem?_cons_succ] at d0 d1 d2
      have hcw : Chg (fun b => b = w.heap.size) wr w2 := Chg.of_below hb2 _
      clear hcell hs hown hb hb2 c0 c1 c2
      go_wp2_with fail
      go_roundw
      case rel => exact ⟨k + 1, ys.set k xs[k], by omega, by go_num, by rw [List.length_set, HL.out], hown', (by repeat first | with_reducible exact Below.refl _ _ | with_reducible assumption | with_reducible refine bl_alloc ?_ _ | with_reducible refine bl_drewN ?_ _ | with_reducible refine Below.drew ?_ | (refine bl_set ?_ (by simp <;> omega) _)), take_set_eq HT.out hlt hkl⟩
      case measure => simp [intOf]; omega
    · obtain rfl : k = xs.length := by omega
      have hy : ys = xs := by have := HT.out; rwa [List.take_length, ← HL.out, List.take_length] at this
      subst hy
      go_wp2_with fail
      exact bodyPost_ret (v := .slice (some ⟨w.heap.size, 0, none⟩) ys.length ys.length) (by simp [results, Try.results29, go_sem]) rfl (Ret.mk (_, _) rfl ⟨own_cells hown, own_in hown, hb⟩)

theorem toFrameS_any (w : World) (A : Option Addr) (c1 : Nat) (e1 : TypeId) (xs : List LFrame) (lx : xs.length ≤ 4294967296) (hx : FramesR p w e1 A xs) (lxd : ∀ x ∈ xs, x.data.length ≤ 1099511627776) :
    Calls Try.prog 31 #[.slice A xs.length c1] w (Ret (fun x : (Option Addr × Nat) × List LFrame => .slice x.1.1 x.2.length x.1.2) fun x w' => FramesR True w' 49 x.1.1 x.2 ∧ x.2.map LFrame.d = xs.map LFrame.d ∧ InA w.heap.size w'.heap.size x.1.1 ∧ (∀ y ∈ x.2, InA w.heap.size w'.heap.size y.A) ∧ Ap (fun y : LFrame => y.A) x.2 ∧ Below w.heap.size w w') := by
  obtain ⟨i0, hi, hz0, hz1, hz2⟩ := info_parts infoFrame
  have hf1 := fun W (h : Below w.heap.size w W) => FramesR.below hx h
  clear hx
  go_enter Try.func31, Try.ntmps31
  go_wp2_with (at_make; refine wpList_make_full _ rfl (.tmp 6) (.tmp 6) 34 rfl w.heap.size 49 i0 (.agg #[.bool false, .int .u32 0, .bool false, .int .i64 0, .slice none 0 0]) 5 Try.underlying34 hi hz0 hz1 .i64 .i64 _ _ xs.length rfl rfl rfl rfl (by rw [hz2]; omega) (by simp only [maxLen]; omega) (by simp) ?_)
  intro w1 hown hgrow
  have hown : w1.ownsRow w.heap.size 49 5 (.slice (some ⟨w.heap.size, 0, none⟩) xs.length xs.length) xs.length ((List.replicate xs.length (⟨false, 0, false, 0, none, 0, []⟩ : LFrame)).flatMap LFrame.cs) := by
    rw [← made_flat LFrame.cs_len _ xs.length (by omega)]
    exact hown
  have hb := bl_grown (Below.refl w.heap.size w) hgrow (by simp)
  clear hgrow
  go_wp2_with fail
  go_loopw [4] (fun i wr => ∃ (k : Nat) (ys : List LFrame), k ≤ xs.length ∧ i = .int .i64 k ∧ ys.length = xs.length ∧ wr.ownsRow w.heap.size 49 5 (.slice (some ⟨w.heap.size, 0, none⟩) xs.length xs.length) xs.length (ys.flatMap LFrame.cs) ∧ Below w.heap.size w wr ∧ (ys.take k).map LFrame.d = (xs.take k).map LFrame.d ∧ (∀ y ∈ ys, FrameR True wr y ∧ InA (w.heap.size + 1) wr.heap.size y.A) ∧ Ap (fun y : LFrame => y.A) ys) (fun i _ => xs.length - (intOf i).toNat)

  case atStart => exact ⟨0, _, by omega, rfl, by simp, hown, hb, by simp, fun y hy => by rw [List.eq_of_mem_replicate hy]; exact ⟨.inl rfl, InA.none _ _⟩, ap_rep _ _ rfl⟩
  case round =>
    clear hb hown
    obtain ⟨k, ys, hk, rfl, hl, hown, hb, ht, hd, hap⟩ := hrel
    have HL : Hid _ := hl
    have HT : Hid _ := ht
    clear hl ht
    by_cases hlt : k < xs.length
    · obtain ⟨g, o, rfl, hg, ⟨c0, c1, c2, c3, c4⟩⟩ := frameAt (hf1 wr hb).1 k hlt
      have hkl : k < ys.length := by rw [HL.out]; exact hlt
      have hfk : FrameR p wr xs[k] := (hf1 wr hb).2 _ (List.getElem_mem hlt)
      have hlk := lxd _ (List.getElem_mem hlt)
      clear hf1 lxd
      go_wp2_with fail
      refine (toFrame_any _ xs[k] hlk hfk).mono ?_; rintro e w2 ⟨A2, cc2, rfl, hR2, hA2, hb2⟩
      have hs := hown.kept (grown_below hb2) (.inr (by simp [Value.ownBlock]))
      have hcell : ∀ i, i < 5 → w2.cell? ⟨w.heap.size, k * 5 + i, none⟩ = ys[k].cs[i]? := fun i hi => by
        rw [hs.cellAt _ (by have : k * 5 + 5 ≤ xs.length * 5 := by { rw [← Nat.succ_mul]; exact Nat.mul_le_mul_right _ hlt }; omega)]
        exact flatMap_get LFrame.cs_len ys k i hkl hi
      have d0 := hcell 0 (by omega)
      have d1 := hcell 1 (by omega)
      have d2 := hcell 2 (by omega)
      have d3 := hcell 3 (by omega)
      have d4 := hcell 4 (by omega)
      have df := hs.frozenAt
      have hown' := put5 LFrame.cs_len hs k hkl ({ xs[k] with A := A2, cap := cc2 } : LFrame) rfl
      have hB := bl_then hb hb2
      have hz2 : w.heap.size < wr.heap.size := own_lt hown rfl
      have hz3 := hb2.size
      simp only [Nat.add_zero] at d0
      simp only [LFrame.cs, List.getElem?_cons_zero, List.getElem?_cons_succ] at d0 d1 d2 d3 d4
      have hcw : Chg (fun b => b = w.heap.size) wr w2 := Chg.of_below hb2 _
      clear hcell hs hown hb hb2 c0 c1 c2 c3 c4
      go_wp2_with fail
      go_roundw
      case rel =>
        refine ⟨k + 1, ys.set k { xs[k] with A := A2, cap := cc2 }, by omega, by go_num, by rw [List.length_set, HL.out], hown', (by repeat first | with_reducible exact Below.refl _ _ | with_reducible assumption | with_reducible refine bl_alloc ?_ _ | with_reducible refine bl_drewN ?_ _ | with_reducible refine Below.drew ?_ | (refine bl_set ?_ (by simp <;> omega) _)), take_set_map HT.out hlt hkl rfl, fun y hy => ?_, ap_set hap (fun y hy => (hd y hy).2) hA2⟩
        rcases List.mem_or_eq_of_mem_set hy with hy | rfl
        · exact ⟨Cells.chg (S := fun b => b = w.heap.size) (Cells.chg (hd y hy).1 hcw (fun a ha => by have := (hd y hy).2 a ha; omega)) (by repeat first | with_reducible exact Chg.refl _ _ | with_reducible assumption | with_reducible refine Chg.alloc ?_ _ | with_reducible refine Chg.drewN ?_ _ | with_reducible refine Chg.drew ?_ | (refine Chg.set ?_ (by simp <;> omega) _)) (fun a ha => by have := (hd y hy).2 a ha; omega), (hd y hy).2.mono (Nat.le_refl _) (by simpa using hz3)⟩
        · exact ⟨Cells.chg (S := fun b => b = w.heap.size) hR2 (by repeat first | with_reducible exact Chg.refl _ _ | with_reducible assumption | with_reducible refine Chg.alloc ?_ _ | with_reducible refine Chg.drewN ?_ _ | with_reducible refine Chg.drew ?_ | (refine Chg.set ?_ (by simp <;> omega) _)) (fun a ha => by have := hA2 a ha; omega), fun a ha => by have := hA2 a ha; simp; omega⟩
      case measure => simp [intOf]; omega
    · obtain rfl : k = xs.length := by omega
      have hy : ys.map LFrame.d = xs.map LFrame.d := by have := HT.out; rwa [List.take_length, ← HL.out, List.take_length] at this
      have hr : Value.slice (some ⟨w.heap.size, 0, none⟩) xs.length xs.length = Value.slice (some ⟨w.heap.size, 0, none⟩) ys.length xs.length := by rw [HL.out]
      have HR : Hid _ := hr
      clear hr hy
      go_wp2_with fail
      exact bodyPost_ret (v := .slice (some ⟨w.heap.size, 0, none⟩) xs.length xs.length) (by simp [results, Try.results31, go_sem]) rfl (Ret.mk ((_, _), ys) (congrArg _ HR.out) ⟨⟨own_cells hown, fun y hy => (hd y hy).1⟩, (by have := HT.out; rwa [List.take_length, ← HL.out, List.take_length] at this), own_in hown, fun y hy => (hd y hy).2.mono (by omega) (Nat.le_refl _), hap, hb⟩)

theorem toBoxS_any (w : World) (A : Option Addr) (c1 : Nat) (e1 : TypeId) (xs : List LBox) (lx : xs.length ≤ 4294967296) (hx : BoxesR p w e1 A xs) (lxd : ∀ x ∈ xs, x.f.data.length ≤ 1099511627776) :
    Calls Try.prog 30 #[.slice A xs.length c1] w (Ret (fun x : (Option Addr × Nat) × List LBox => .slice x.1.1 x.2.length x.1.2) fun x w' => BoxesR True w' 98 x.1.1 x.2 ∧ x.2.map LBox.d = xs.map LBox.d ∧ InA w.heap.size w'.heap.size x.1.1 ∧ (∀ y ∈ x.2, InA w.heap.size w'.heap.size y.f.A) ∧ Ap (fun y : LBox => y.f.A) x.2 ∧ Below w.heap.size w w') := by
  obtain ⟨i0, hi, hz0, hz1, hz2⟩ := info_parts infoBox
  have hf1 := fun W (h : Below w.heap.size w W) => BoxesR.below hx h
  clear hx
  go_enter Try.func30, Try.ntmps30
  go_wp2_with (at_make; refine wpList_make_full _ rfl (.tmp 6) (.tmp 6) 33 rfl w.heap.size 98 i0 (.agg #[.int .i64 0, .int .i64 0, .int .i64 0, .bool false, .int .u32 0, .bool false, .int .i64 0, .slice none 0 0]) 8 Try.underlying33 hi hz0 hz1 .i64 .i64 _ _ xs.length rfl rfl rfl rfl (by rw [hz2]; omega) (by simp only [maxLen]; omega) (by simp) ?_)
  intro w1 hown hgrow
  have hown : w1.ownsRow w.heap.size 98 8 (.slice (some ⟨w.heap.size, 0, none⟩) xs.length xs.length) xs.length ((List.replicate xs.length (⟨0, 0, 0, ⟨false, 0, false, 0, none, 0, []⟩⟩ : LBox)).flatMap LBox.cs) := by
    rw [← made_flat LBox.cs_len _ xs.length (by omega)]
    exact hown
  have hb := bl_grown (Below.refl w.heap.size w) hgrow (by simp)
  clear hgrow
  go_wp2_with fail
  go_loopw [4] (fun i wr => ∃ (k : Nat) (ys : List LBox), k ≤ xs.length ∧ i = .int .i64 k ∧ ys.length = xs.length ∧ wr.ownsRow w.heap.size 98 8 (.slice (some ⟨w.heap.size, 0, none⟩) xs.length xs.length) xs.length (ys.flatMap LBox.cs) ∧ Below w.heap.size w wr ∧ (ys.take k).map LBox.d = (xs.take k).map LBox.d ∧ (∀ y ∈ ys, FrameR True wr y.f ∧ InA (w.heap.size + 1) wr.heap.size y.f.A) ∧ Ap (fun y : LBox => y.f.A) ys) (fun i _ => xs.length - (intOf i).toNat)

  case atStart => exact ⟨0, _, by omega, rfl, by simp, hown, hb, by simp, fun y hy => by rw [List.eq_of_mem_replicate hy]; exact ⟨.inl rfl, InA.none _ _⟩, ap_rep _ _ rfl⟩
  case round =>
    clear hb hown
    obtain ⟨k, ys, hk, rfl, hl, hown, hb, ht, hd, hap⟩ := hrel
    have HL : Hid _ := hl
    have HT : Hid _ := ht
    clear hl ht
    by_cases hlt : k < xs.length
    · obtain ⟨g, o, rfl, hg, ⟨c0, c1, c2, c3, c4, c5, c6, c7⟩⟩ := boxAt (hf1 wr hb).1 k hlt
      have hkl : k < ys.length := by rw [HL.out]; exact hlt
      have hfk : FrameR p wr xs[k].f := (hf1 wr hb).2 _ (List.getElem_mem hlt)
      have hlk := lxd _ (List.getElem_mem hlt)
      clear hf1 lxd
      go_wp2_with fail
      refine (toBox_any _ xs[k] hlk hfk).mono ?_; rintro e w2 ⟨A2, cc2, rfl, hR2, hA2, hb2⟩
      have hs := hown.kept (grown_below hb2) (.inr (by simp [Value.ownBlock]))
      have hcell : ∀ i, i < 8 → w2.cell? ⟨w.heap.size, k * 8 + i, none⟩ = ys[k].cs[i]? := fun i hi => by
        rw [hs.cellAt _ (by have : k * 8 + 8 ≤ xs.length * 8 := by { rw [← Nat.succ_mul]; exact Nat.mul_le_mul_right _ hlt }; omega)]
        exact flatMap_get LBox.cs_len ys k i hkl hi
      have d0 := hcell 0 (by omega)
      have d1 := hcell 1 (by omega)
      have d2 := hcell 2 (by omega)
      have d3 := hcell 3 (by omega)
      have d4 := hcell 4 (by omega)
      have d5 := hcell 5 (by omega)
      have d6 := hcell 6 (by omega)
      have d7 := hcell 7 (by omega)
      have df := hs.frozenAt
      have hown' := put8 LBox.cs_len hs k hkl ({ xs[k] with f := { xs[k].f with A := A2, cap := cc2 } } : LBox) rfl
      have hB := bl_then hb hb2
      have hz2 : w.heap.size < wr.heap.size := own_lt hown rfl
      have hz3 := hb2.size
      simp only [Nat.add_zero] at d0
      simp only [LBox.cs, List.getElem?_cons_zero, List.getElem?_cons_succ] at d0 d1 d2 d3 d4 d5 d6 d7
      have hcw : Chg (fun b => b = w.heap.size) wr w2 := Chg.of_below hb2 _
      clear hcell hs hown hb hb2 c0 c1 c2 c3 c4 c5 c6 c7
      go_wp2_with fail
      go_roundw
      case rel =>
        refine ⟨k + 1, ys.set k { xs[k] with f := { xs[k].f with A := A2, cap := cc2 } }, by omega, by go_num, by rw [List.length_set, HL.out], hown', (by repeat first | with_reducible exact Below.refl _ _ | with_reducible assumption | with_reducible refine bl_alloc ?_ _ | with_reducible refine bl_drewN ?_ _ | with_reducible refine Below.drew ?_ | (refine bl_set ?_ (by simp <;> omega) _)), take_set_map HT.out hlt hkl rfl, fun y hy => ?_, ap_set hap (fun y hy => (hd y hy).2) hA2⟩
        rcases List.mem_or_eq_of_mem_set hy with hy | rfl
        · exact ⟨Cells.chg (S := fun b => b = w.heap.size) (Cells.chg (hd y hy).1 hcw (fun a ha => by have := (hd y hy).2 a ha; omega)) (by repeat first | with_reducible exact Chg.refl _ _ | with_reducible assumption | with_reducible refine Chg.alloc ?_ _ | with_reducible refine Chg.drewN ?_ _ | with_reducible refine Chg.drew ?_ | (refine Chg.set ?_ (by simp <;> omega) _)) (fun a ha => by have := (hd y hy).2 a ha; omega), (hd y hy).2.mono (Nat.le_refl _) (by simpa using hz3)⟩
        · exact ⟨Cells.chg (S := fun b => b = w.heap.size) hR2 (by repeat first | with_reducible exact Chg.refl _ _ | with_reducible assumption | with_reducible refine Chg.alloc ?_ _ | with_reducible refine Chg.drewN ?_ _ | with_reducible refine Chg.drew ?_ | (refine Chg.set ?_ (by simp <;> omega) _)) (fun a ha => by have := hA2 a ha; omega), fun a ha => by have := hA2 a ha; simp; omega⟩
      case measure => simp [intOf]; omega
    · obtain rfl : k = xs.length := by omega
      have hy : ys.map LBox.d = xs.map LBox.d := by have := HT.out; rwa [List.take_length, ← HL.out, List.take_length] at this
      have hr : Value.slice (some ⟨w.heap.size, 0, none⟩) xs.length xs.length = Value.slice (some ⟨w.heap.size, 0, none⟩) ys.length xs.length := by rw [HL.out]
      have HR : Hid _ := hr
      clear hr hy
      go_wp2_with fail
      exact bodyPost_ret (v := .slice (some ⟨w.heap.size, 0, none⟩) xs.length xs.length) (by simp [results, Try.results30, go_sem]) rfl (Ret.mk ((_, _), ys) (congrArg _ HR.out) ⟨⟨own_cells hown, fun y hy => (hd y hy).1⟩, (by have := HT.out; rwa [List.take_length, ← HL.out, List.take_length] at this), own_in hown, fun y hy => (hd y hy).2.mono (by omega) (Nat.le_refl _), hap, hb⟩)

theorem toEventS_any (w : World) (A : Option Addr) (c1 : Nat) (e1 : TypeId) (xs : List LEvent) (lx : xs.length ≤ 4294967296) (hx : EventsR p w e1 A xs) (lxd : ∀ x ∈ xs, x.f.data.length ≤ 1099511627776) :
    Calls Try.prog 32 #[.slice A xs.length c1] w (Ret (fun x : (Option Addr × Nat) × List LEvent => .slice x.1.1 x.2.length x.1.2) fun x w' => EventsR True w' 95 x.1.1 x.2 ∧ x.2.map LEvent.d = xs.map LEvent.d ∧ InA w.heap.size w'.heap.size x.1.1 ∧ (∀ y ∈ x.2, InA w.heap.size w'.heap.size y.f.A) ∧ Ap (fun y : LEvent => y.f.A) x.2 ∧ Below w.heap.size w w') := by
  obtain ⟨i0, hi, hz0, hz1, hz2⟩ := info_parts infoEvent
  have hf1 := fun W (h : Below w.heap.size w W) => EventsR.below hx h
  clear hx
  go_enter Try.func32, Try.ntmps32
  go_wp2_with (at_make; refine wpList_make_full _ rfl (.tmp 6) (.tmp 6) 35 rfl w.heap.size 95 i0 (.agg #[.int .i64 0, .int .i64 0, .int .i64 0, .bool false, .int .u32 0, .bool false, .int .i64 0, .slice none 0 0]) 8 Try.underlying35 hi hz0 hz1 .i64 .i64 _ _ xs.length rfl rfl rfl rfl (by rw [hz2]; omega) (by simp only [maxLen]; omega) (by simp) ?_)
  intro w1 hown hgrow
  have hown : w1.ownsRow w.heap.size 95 8 (.slice (some ⟨w.heap.size, 0, none⟩) xs.length xs.length) xs.length ((List.replicate xs.length (⟨0, 0, 0, ⟨false, 0, false, 0, none, 0, []⟩⟩ : LEvent)).flatMap LEvent.cs) := by
    rw [← made_flat LEvent.cs_len _ xs.length (by omega)]
    exact hown
  have hb := bl_grown (Below.refl w.heap.size w) hgrow (by simp)
  clear hgrow
  go_wp2_with fail
  go_loopw [4] (fun i wr => ∃ (k : Nat) (ys : List LEvent), k ≤ xs.length ∧ i = .int .i64 k ∧ ys.length = xs.length ∧ wr.ownsRow w.heap.size 95 8 (.slice (some ⟨w.heap.size, 0, none⟩) xs.length xs.length) xs.length (ys.flatMap LEvent.cs) ∧ Below w.heap.size w wr ∧ (ys.take k).map LEvent.d = (xs.take k).map LEvent.d ∧ (∀ y ∈ ys, FrameR True wr y.f ∧ InA (w.heap.size + 1) wr.heap.size y.f.A) ∧ Ap (fun y : LEvent => y.f.A) ys) (fun i _ => xs.length - (intOf i).toNat)

  case atStart => exact ⟨0, _, by omega, rfl, by simp, hown, hb, by simp, fun y hy => by rw [List.eq_of_mem_replicate hy]; exact ⟨.inl rfl, InA.none _ _⟩, ap_rep _ _ rfl⟩
  case round =>
    clear hb hown
    obtain ⟨k, ys, hk, rfl, hl, hown, hb, ht, hd, hap⟩ := hrel
    have HL : Hid _ := hl
    have HT : Hid _ := ht
    clear hl ht
    by_cases hlt : k < xs.length
    · obtain ⟨g, o, rfl, hg, ⟨c0, c1, c2, c3, c4, c5, c6, c7⟩⟩ := eventAt (hf1 wr hb).1 k hlt
      have hkl : k < ys.length := by rw [HL.out]; exact hlt
      have hfk : FrameR p wr xs[k].f := (hf1 wr hb).2 _ (List.getElem_mem hlt)
      have hlk := lxd _ (List.getElem_mem hlt)
      clear hf1 lxd
      go_wp2_with fail
      refine (toEvent_any _ xs[k] hlk hfk).mono ?_; rintro e w2 ⟨A2, cc2, rfl, hR2, hA2, hb2⟩
      have hs := hown.kept (grown_below hb2) (.inr (by simp [Value.ownBlock]))
      have hcell : ∀ i, i < 8 → w2.cell? ⟨w.heap.size, k * 8 + i, none⟩ = ys[k].cs[i]? := fun i hi => by
        rw [hs.cellAt _ (by have : k * 8 + 8 ≤ xs.length * 8 := by { rw [← Nat.succ_mul]; exact Nat.mul_le_mul_right _ hlt }; omega)]
        exact flatMap_get LEvent.cs_len ys k i hkl hi
      have d0 := hcell 0 (by omega)
      have d1 := hcell 1 (by omega)
      have d2 := hcell 2 (by omega)
      have d3 := hcell 3 (by omega)
      have d4 := hcell 4 (by omega)
      have d5 := hcell 5 (by omega)
      have d6 := hcell 6 (by omega)
      have d7 := hcell 7 (by omega)
      have df := hs.frozenAt
      have hown' := put8 LEvent.cs_len hs k hkl ({ xs[k] with f := { xs[k].f with A := A2, cap := cc2 } } : LEvent) rfl
      have hB := bl_then hb hb2
      have hz2 : w.heap.size < wr.heap.size := own_lt hown rfl
      have hz3 := hb2.size
      simp only [Nat.add_zero] at d0
      simp only [LEvent.cs, List.getElem?_cons_zero, List.getElem?_cons_succ] at d0 d1 d2 d3 d4 d5 d6 d7
      have hcw : Chg (fun b => b = w.heap.size) wr w2 := Chg.of_below hb2 _
      clear hcell hs hown hb hb2 c0 c1 c2 c3 c4 c5 c6 c7
      go_wp2_with fail
      go_roundw
      case rel =>
        refine ⟨k + 1, ys.set k { xs[k] with f := { xs[k].f with A := A2, cap := cc2 } }, by omega, by go_num, by rw [List.length_set, HL.out], hown', (by repeat first | with_reducible exact Below.refl _ _ | with_reducible assumption | with_reducible refine bl_alloc ?_ _ | with_reducible refine bl_drewN ?_ _ | with_reducible refine Below.drew ?_ | (refine bl_set ?_ (by simp <;> omega) _)), take_set_map HT.out hlt hkl rfl, fun y hy => ?_, ap_set hap (fun y hy => (hd y hy).2) hA2⟩
        rcases List.mem_or_eq_of_mem_set hy with hy | rfl
        · exact ⟨Cells.chg (S := fun b => b = w.heap.size) (Cells.chg (hd y hy).1 hcw (fun a ha => by have := (hd y hy).2 a ha; omega)) (by repeat first | with_reducible exact Chg.refl _ _ | with_reducible assumption | with_reducible refine Chg.alloc ?_ _ | with_reducible refine Chg.drewN ?_ _ | with_reducible refine Chg.drew ?_ | (refine Chg.set ?_ (by simp <;> omega) _)) (fun a ha => by have := (hd y hy).2 a ha; omega), (hd y hy).2.mono (Nat.le_refl _) (by simpa using hz3)⟩
        · exact ⟨Cells.chg (S := fun b => b = w.heap.size) hR2 (by repeat first | with_reducible exact Chg.refl _ _ | with_reducible assumption | with_reducible refine Chg.alloc ?_ _ | with_reducible refine Chg.drewN ?_ _ | with_reducible refine Chg.drew ?_ | (refine Chg.set ?_ (by simp <;> omega) _)) (fun a ha => by have := hA2 a ha; omega), fun a ha => by have := hA2 a ha; simp; omega⟩
      case measure => simp [intOf]; omega
    · obtain rfl : k = xs.length := by omega
      have hy : ys.map LEvent.d = xs.map LEvent.d := by have := HT.out; rwa [List.take_length, ← HL.out, List.take_length] at this
      have hr : Value.slice (some ⟨w.heap.size, 0, none⟩) xs.length xs.length = Value.slice (some ⟨w.heap.size, 0, none⟩) ys.length xs.length := by rw [HL.out]
      have HR : Hid _ := hr
      clear hr hy
      go_wp2_with fail
      exact bodyPost_ret (v := .slice (some ⟨w.heap.size, 0, none⟩) xs.length xs.length) (by simp [results, Try.results32, go_sem]) rfl (Ret.mk ((_, _), ys) (congrArg _ HR.out) ⟨⟨own_cells hown, fun y hy => (hd y hy).1⟩, (by have := HT.out; rwa [List.take_length, ← HL.out, List.take_length] at this), own_in hown, fun y hy => (hd y hy).2.mono (by omega) (Nat.le_refl _), hap, hb⟩)

theorem toHost_any (w : World) (h : LHost) (hz : HostSz h) (H : HostR p 107 87 46 90 w h) :
    Calls Try.prog 8 #[.agg #[.int .i64 h.cfg.boxes, .int .i64 h.cfg.fifo, .int .i64 h.cfg.policy, .int .i64 h.cfg.events, .slice h.fA h.filters.length h.fc, .slice h.bA h.boxes.length h.bc, .slice h.qA h.fifo.length h.qc, .slice h.eA h.queue.length h.ec, .int .i64 h.lost, .int .i64 h.stamp]] w (Ret (fun x : LHost => .agg #[.int .i64 x.cfg.boxes, .int .i64 x.cfg.fifo, .int .i64 x.cfg.policy, .int .i64 x.cfg.events, .slice x.fA x.filters.length x.fc, .slice x.bA x.boxes.length x.bc, .slice x.qA x.fifo.length x.qc, .slice x.eA x.queue.length x.ec, .int .i64 x.lost, .int .i64 x.stamp]) fun x w' => HostR True 102 98 49 95 w' x ∧ x.d = h.d ∧ HostIn w.heap.size w'.heap.size x ∧ HostAp x ∧ Below w.heap.size w w') := by
  have hf1 := fun W (k : Below w.heap.size w W) => H.below k
  clear H
  go_enter Try.func8, Try.ntmps8
  go_wp2_with fail
  have hB : Below w.heap.size w (((w.alloc (.cells #[.int .i64 h.cfg.boxes, .int .i64 h.cfg.fifo, .int .i64 h.cfg.policy, .int .i64 h.cfg.events, .slice h.fA h.filters.length h.fc, .slice h.bA h.boxes.length h.bc, .slice h.qA h.fifo.length h.qc, .slice h.eA h.queue.length h.ec, .int .i64 h.lost, .int .i64 h.stamp] 29)).alloc (.cells #[.int .i64 0, .int .i64 0, .int .i64 0, .int .i64 0, .slice none 0 0, .slice none 0 0, .slice none 0 0, .slice none 0 0, .int .i64 0, .int .i64 0] 37)).alloc (.cells #[.int .i64 0, .int .i64 0, .int .i64 0, .int .i64 0, .slice none 0 0, .slice none 0 0, .slice none 0 0, .slice none 0 0, .int .i64 0, .int .i64 0] 37)) := (by repeat first | with_reducible exact Below.refl _ _ | with_reducible assumption | with_reducible refine bl_alloc ?_ _ | with_reducible refine bl_drewN ?_ _ | with_reducible refine Below.drew ?_ | (refine bl_set ?_ (by simp <;> omega) _))
  refine (toConfig_any _ h.cfg).mono ?_; rintro e w1 ⟨rfl, hb⟩
  have hh0 := heap_below hb (heap_old _ (heap_old _ (heap_new (W := w) _ _ rfl)))
  have hh1 := heap_below hb (heap_old _ (heap_new (W := w.alloc _) _ (w.heap.size + 1) (by simp)))
  have hh2 := heap_below hb (heap_new (W := (w.alloc _).alloc _) _ (w.heap.size + 1 + 1) (by simp))
  replace hB : Below w.heap.size w w1 := bl_then hB hb
  have zz := lt_of_heap hh2
  obtain ⟨c00, c01, c02, c03, c04, c05, c06, c07, c08, c09, cf0⟩ := ten hh0
  obtain ⟨d00, d01, d02, d03, d04, d05, d06, d07, d08, d09, df0⟩ := ten hh2
  have KH0 : Hid _ := hh0
  have KH1 : Hid _ := hh1
  have KH2 : Hid _ := hh2
  clear hh0 hh1 hh2 hb
  go_wp2_with fail
  have hh0 := KH0.out
  have hh1 := KH1.out
  have hh2 := KH2.out
  clear KH0 KH1 KH2 c00 c01 c02 c03 c04 c05 c06 c07 c08 c09 cf0 d00 d01 d02 d03 d04 d05 d06 d07 d08 d09 df0
  have hB : Below w.heap.size w ((((w1.setCell ⟨w.heap.size + 1 + 1, 0, none⟩ (.int .i64 h.cfg.boxes)).setCell ⟨w.heap.size + 1 + 1, 1, none⟩ (.int .i64 h.cfg.fifo)).setCell ⟨w.heap.size + 1 + 1, 2, none⟩ (.int .i64 h.cfg.policy)).setCell ⟨w.heap.size + 1 + 1, 3, none⟩ (.int .i64 h.cfg.events)) := (by repeat first | with_reducible exact Below.refl _ _ | with_reducible assumption | with_reducible refine bl_alloc ?_ _ | with_reducible refine bl_drewN ?_ _ | with_reducible refine Below.drew ?_ | (refine bl_set ?_ (by simp <;> omega) _))
  refine (toFilterS_any _ _ _ _ _ (by have := hz.f; omega) (hf1 _ hB).f).mono ?_; rintro e w2 ⟨⟨A1, c1⟩, rfl, R1, g1, hb⟩
  replace g1 : InA (w.heap.size + 3) w2.heap.size A1 := fun a ha => by have := g1 a ha; simp at this; omega
  have zy1 : w1.heap.size ≤ w2.heap.size := by simpa using hb.size
  replace hh0 := heap_below hb (heap_far (heap_far (heap_far (heap_far hh0 (by simp <;> omega)) (by simp <;> omega)) (by simp <;> omega)) (by simp <;> omega))
  replace hh1 := heap_below hb (heap_far (heap_far (heap_far (heap_far hh1 (by simp <;> omega)) (by simp <;> omega)) (by simp <;> omega)) (by simp <;> omega))
  replace hh2 := heap_below hb (heap_set (j := 3) (v := .int .i64 h.cfg.events) (heap_set (j := 2) (v := .int .i64 h.cfg.policy) (heap_set (j := 1) (v := .int .i64 h.cfg.fifo) (heap_set (j := 0) (v := .int .i64 h.cfg.boxes) hh2 rfl) rfl) rfl) rfl)
  replace hB : Below w.heap.size w w2 := bl_then hB hb
  replace zz := lt_of_heap hh2
  obtain ⟨c00, c01, c02, c03, c04, c05, c06, c07, c08, c09, cf0⟩ := ten hh0
  obtain ⟨d00, d01, d02, d03, d04, d05, d06, d07, d08, d09, df0⟩ := ten hh2
  have KH0 : Hid _ := hh0
  have KH1 : Hid _ := hh1
  have KH2 : Hid _ := hh2
  clear hh0 hh1 hh2 hb
  go_wp2_with fail
  have hh0 := KH0.out
  have hh1 := KH1.out
  have hh2 := KH2.out
  clear KH0 KH1 KH2 c00 c01 c02 c03 c04 c05 c06 c07 c08 c09 cf0 d00 d01 d02 d03 d04 d05 d06 d07 d08 d09 df0
  have hB : Below w.heap.size w (w2.setCell ⟨w.heap.size + 1 + 1, 4, none⟩ (.slice A1 h.filters.length c1)) := (by repeat first | with_reducible exact Below.refl _ _ | with_reducible assumption | with_reducible refine bl_alloc ?_ _ | with_reducible refine bl_drewN ?_ _ | with_reducible refine Below.drew ?_ | (refine bl_set ?_ (by simp <;> omega) _))
  refine (toBoxS_any _ _ _ _ _ (by have := hz.b; omega) (hf1 _ hB).b (fun x hx => by have := hz.bd x hx; omega)).mono ?_; rintro e w3 ⟨⟨⟨A2, c2⟩, bs⟩, rfl, R2, e2, g2, gd2, ap2, hb⟩
  replace g2 : InA (w.heap.size + 3) w3.heap.size A2 := fun a ha => by have := g2 a ha; simp at this; omega
  have zy2 : w2.heap.size ≤ w3.heap.size := by simpa using hb.size
  have gl2 : ∀ x ∈ bs, InA w2.heap.size w3.heap.size x.f.A := fun x hx => by simpa using gd2 x hx
  replace gd2 : ∀ x ∈ bs, InA (w.heap.size + 3) w3.heap.size x.f.A := fun x hx a ha => by have := gd2 x hx a ha; simp at this; omega
  replace hh0 := heap_below hb (heap_far hh0 (by simp <;> omega))
  replace hh1 := heap_below hb (heap_far hh1 (by simp <;> omega))
  replace hh2 := heap_below hb (heap_set (j := 4) (v := .slice A1 h.filters.length c1) hh2 rfl)
  replace R1 := Cells.below (Cells.chg (S := fun k => k = w.heap.size + 1 + 1) R1 (by repeat first | with_reducible exact Chg.refl _ _ | with_reducible assumption | with_reducible refine Chg.alloc ?_ _ | with_reducible refine Chg.drewN ?_ _ | with_reducible refine Chg.drew ?_ | (refine Chg.set ?_ (by simp <;> omega) _)) (fun a ha => by have := g1 a ha; omega)) hb
  replace hB : Below w.heap.size w w3 := bl_then hB hb
  replace zz := lt_of_heap hh2
  obtain ⟨c00, c01, c02, c03, c04, c05, c06, c07, c08, c09, cf0⟩ := ten hh0
  obtain ⟨d00, d01, d02, d03, d04, d05, d06, d07, d08, d09, df0⟩ := ten hh2
  have KH0 : Hid _ := hh0
  have KH1 : Hid _ := hh1
  have KH2 : Hid _ := hh2
  have E2 : Hid _ := e2
  clear e2
  clear hh0 hh1 hh2 hb
  go_wp2_with fail
  have hh0 := KH0.out
  have hh1 := KH1.out
  have hh2 := KH2.out
  clear KH0 KH1 KH2 c00 c01 c02 c03 c04 c05 c06 c07 c08 c09 cf0 d00 d01 d02 d03 d04 d05 d06 d07 d08 d09 df0
  have hB : Below w.heap.size w (w3.setCell ⟨w.heap.size + 1 + 1, 5, none⟩ (.slice A2 bs.length c2)) := (by repeat first | with_reducible exact Below.refl _ _ | with_reducible assumption | with_reducible refine bl_alloc ?_ _ | with_reducible refine bl_drewN ?_ _ | with_reducible refine Below.drew ?_ | (refine bl_set ?_ (by simp <;> omega) _))
  refine (toFrameS_any _ _ _ _ _ (by have := hz.q; omega) (hf1 _ hB).q (fun x hx => by have := hz.qd x hx; omega)).mono ?_; rintro e w4 ⟨⟨⟨A3, c3⟩, qs⟩, rfl, R3, e3, g3, gd3, ap3, hb⟩
  replace g3 : InA (w.heap.size + 3) w4.heap.size A3 := fun a ha => by have := g3 a ha; simp at this; omega
  have zy3 : w3.heap.size ≤ w4.heap.size := by simpa using hb.size
  have gl3 : ∀ x ∈ qs, InA w3.heap.size w4.heap.size x.A := fun x hx => by simpa using gd3 x hx
  replace gd3 : ∀ x ∈ qs, InA (w.heap.size + 3) w4.heap.size x.A := fun x hx a ha => by have := gd3 x hx a ha; simp at this; omega
  replace hh0 := heap_below hb (heap_far hh0 (by simp <;> omega))
  replace hh1 := heap_below hb (heap_far hh1 (by simp <;> omega))
  replace hh2 := heap_below hb (heap_set (j := 5) (v := .slice A2 bs.length c2) hh2 rfl)
  replace R1 := Cells.below (Cells.chg (S := fun k => k = w.heap.size + 1 + 1) R1 (by repeat first | with_reducible exact Chg.refl _ _ | with_reducible assumption | with_reducible refine Chg.alloc ?_ _ | with_reducible refine Chg.drewN ?_ _ | with_reducible refine Chg.drew ?_ | (refine Chg.set ?_ (by simp <;> omega) _)) (fun a ha => by have := g1 a ha; omega)) hb
  replace R2 := BoxesR.below (BoxesR.chg (S := fun k => k = w.heap.size + 1 + 1) R2 (by repeat first | with_reducible exact Chg.refl _ _ | with_reducible assumption | with_reducible refine Chg.alloc ?_ _ | with_reducible refine Chg.drewN ?_ _ | with_reducible refine Chg.drew ?_ | (refine Chg.set ?_ (by simp <;> omega) _)) (fun a ha => by have := g2 a ha; omega) (fun x hx a ha => by have := gd2 x hx a ha; omega)) hb
  replace hB : Below w.heap.size w w4 := bl_then hB hb
  replace zz := lt_of_heap hh2
  obtain ⟨c00, c01, c02, c03, c04, c05, c06, c07, c08, c09, cf0⟩ := ten hh0
  obtain ⟨d00, d01, d02, d03, d04, d05, d06, d07, d08, d09, df0⟩ := ten hh2
  have KH0 : Hid _ := hh0
  have KH1 : Hid _ := hh1
  have KH2 : Hid _ := hh2
  have E3 : Hid _ := e3
  clear e3
  clear hh0 hh1 hh2 hb
  go_wp2_with fail
  have hh0 := KH0.out
  have hh1 := KH1.out
  have hh2 := KH2.out
  clear KH0 KH1 KH2 c00 c01 c02 c03 c04 c05 c06 c07 c08 c09 cf0 d00 d01 d02 d03 d04 d05 d06 d07 d08 d09 df0
  have hB : Below w.heap.size w (w4.setCell ⟨w.heap.size + 1 + 1, 6, none⟩ (.slice A3 qs.length c3)) := (by repeat first | with_reducible exact Below.refl _ _ | with_reducible assumption | with_reducible refine bl_alloc ?_ _ | with_reducible refine bl_drewN ?_ _ | with_reducible refine Below.drew ?_ | (refine bl_set ?_ (by simp <;> omega) _))
  refine (toEventS_any _ _ _ _ _ (by have := hz.e; omega) (hf1 _ hB).e (fun x hx => by have := hz.ed x hx; omega)).mono ?_; rintro e w5 ⟨⟨⟨A4, c4⟩, es⟩, rfl, R4, e4, g4, gd4, ap4, hb⟩
  replace g4 : InA (w.heap.size + 3) w5.heap.size A4 := fun a ha => by have := g4 a ha; simp at this; omega
  have zy4 : w4.heap.size ≤ w5.heap.size := by simpa using hb.size
  have gl4 : ∀ x ∈ es, InA w4.heap.size w5.heap.size x.f.A := fun x hx => by simpa using gd4 x hx
  replace gd4 : ∀ x ∈ es, InA (w.heap.size + 3) w5.heap.size x.f.A := fun x hx a ha => by have := gd4 x hx a ha; simp at this; omega
  replace hh0 := heap_below hb (heap_far hh0 (by simp <;> omega))
  replace hh1 := heap_below hb (heap_far hh1 (by simp <;> omega))
  replace hh2 := heap_below hb (heap_set (j := 6) (v := .slice A3 qs.length c3) hh2 rfl)
  replace R1 := Cells.below (Cells.chg (S := fun k => k = w.heap.size + 1 + 1) R1 (by repeat first | with_reducible exact Chg.refl _ _ | with_reducible assumption | with_reducible refine Chg.alloc ?_ _ | with_reducible refine Chg.drewN ?_ _ | with_reducible refine Chg.drew ?_ | (refine Chg.set ?_ (by simp <;> omega) _)) (fun a ha => by have := g1 a ha; omega)) hb
  replace R2 := BoxesR.below (BoxesR.chg (S := fun k => k = w.heap.size + 1 + 1) R2 (by repeat first | with_reducible exact Chg.refl _ _ | with_reducible assumption | with_reducible refine Chg.alloc ?_ _ | with_reducible refine Chg.drewN ?_ _ | with_reducible refine Chg.drew ?_ | (refine Chg.set ?_ (by simp <;> omega) _)) (fun a ha => by have := g2 a ha; omega) (fun x hx a ha => by have := gd2 x hx a ha; omega)) hb
  replace R3 := FramesR.below (FramesR.chg (S := fun k => k = w.heap.size + 1 + 1) R3 (by repeat first | with_reducible exact Chg.refl _ _ | with_reducible assumption | with_reducible refine Chg.alloc ?_ _ | with_reducible refine Chg.drewN ?_ _ | with_reducible refine Chg.drew ?_ | (refine Chg.set ?_ (by simp <;> omega) _)) (fun a ha => by have := g3 a ha; omega) (fun x hx a ha => by have := gd3 x hx a ha; omega)) hb
  replace hB : Below w.heap.size w w5 := bl_then hB hb
  replace zz := lt_of_heap hh2
  obtain ⟨c00, c01, c02, c03, c04, c05, c06, c07, c08, c09, cf0⟩ := ten hh0
  obtain ⟨d00, d01, d02, d03, d04, d05, d06, d07, d08, d09, df0⟩ := ten hh2
  have KH0 : Hid _ := hh0
  have KH1 : Hid _ := hh1
  have KH2 : Hid _ := hh2
  obtain ⟨a00, a01, a02, a03, a04, a05, a06, a07, a08, a09, af0⟩ := ten hh1
  have E4 : Hid _ := e4
  clear e4
  clear hh0 hh1 hh2 hb
  go_wp2_with fail
  refine bodyPost_ret (v := .agg #[.int .i64 h.cfg.boxes, .int .i64 h.cfg.fifo, .int .i64 h.cfg.policy, .int .i64 h.cfg.events, .slice A1 h.filters.length c1, .slice A2 bs.length c2, .slice A3 qs.length c3, .slice A4 es.length c4, .int .i64 h.lost, .int .i64 h.stamp]) (by simp [results, Try.results8, go_sem, *]) rfl (Ret.mk ⟨h.cfg, A1, c1, h.filters, A2, c2, bs, A3, c3, qs, A4, c4, es, h.lost, h.stamp⟩ rfl ⟨⟨?_, ?_, ?_, ?_⟩, ?_, ⟨?_, ?_, ?_, ?_, ?_, ?_, ?_⟩, ⟨ap2, ap3, ap4, ?_, ?_, ?_⟩, (by repeat first | with_reducible exact Below.refl _ _ | with_reducible assumption | with_reducible refine bl_alloc ?_ _ | with_reducible refine bl_drewN ?_ _ | with_reducible refine Below.drew ?_ | (refine bl_set ?_ (by simp <;> omega) _))⟩)
  · exact Cells.chg (S := fun k => k = w.heap.size + 1 ∨ k = w.heap.size + 1 + 1) R1 (by repeat first | with_reducible exact Chg.refl _ _ | with_reducible assumption | with_reducible refine Chg.alloc ?_ _ | with_reducible refine Chg.drewN ?_ _ | with_reducible refine Chg.drew ?_ | (refine Chg.set ?_ (by simp <;> omega) _)) (fun a ha => by have := g1 a ha; omega)
  · exact BoxesR.chg (S := fun k => k = w.heap.size + 1 ∨ k = w.heap.size + 1 + 1) R2 (by repeat first | with_reducible exact Chg.refl _ _ | with_reducible assumption | with_reducible refine Chg.alloc ?_ _ | with_reducible refine Chg.drewN ?_ _ | with_reducible refine Chg.drew ?_ | (refine Chg.set ?_ (by simp <;> omega) _)) (fun a ha => by have := g2 a ha; omega) (fun x hx a ha => by have := gd2 x hx a ha; omega)
  · exact FramesR.chg (S := fun k => k = w.heap.size + 1 ∨ k = w.heap.size + 1 + 1) R3 (by repeat first | with_reducible exact Chg.refl _ _ | with_reducible assumption | with_reducible refine Chg.alloc ?_ _ | with_reducible refine Chg.drewN ?_ _ | with_reducible refine Chg.drew ?_ | (refine Chg.set ?_ (by simp <;> omega) _)) (fun a ha => by have := g3 a ha; omega) (fun x hx a ha => by have := gd3 x hx a ha; omega)
  · exact EventsR.chg (S := fun k => k = w.heap.size + 1 ∨ k = w.heap.size + 1 + 1) R4 (by repeat first | with_reducible exact Chg.refl _ _ | with_reducible assumption | with_reducible refine Chg.alloc ?_ _ | with_reducible refine Chg.drewN ?_ _ | with_reducible refine Chg.drew ?_ | (refine Chg.set ?_ (by simp <;> omega) _)) (fun a ha => by have := g4 a ha; omega) (fun x hx a ha => by have := gd4 x hx a ha; omega)
  · simp [LHost.d, E2.out, E3.out, E4.out]
  · exact fun a ha => by have := g1 a ha; simp; omega
  · exact fun a ha => by have := g2 a ha; simp; omega
  · exact fun a ha => by have := g3 a ha; simp; omega
  · exact fun a ha => by have := g4 a ha; simp; omega
  · exact fun x hx a ha => by have := gd2 x hx a ha; simp; omega
  · exact fun x hx a ha => by have := gd3 x hx a ha; simp; omega
  · exact fun x hx a ha => by have := gd4 x hx a ha; simp; omega
  · exact fun x hx y hy a b ha hb => by have := gl2 x hx a ha; have := gl3 y hy b hb; omega
  · exact fun x hx y hy a b ha hb => by have := gl2 x hx a ha; have := gl4 y hy b hb; omega
  · exact fun x hx y hy a b ha hb => by have := gl3 x hx a ha; have := gl4 y hy b hb; omega

end Go.Proofs.Ytcfhjmflnochcaa