/-
  Functions that copy frames and bytes: what they hand back is new memory that reads as what was copied.
-/
import Derived.Test.YtcfhjmflnochcaaApp
set_option linter.unusedVariables false
set_option linter.unusedSimpArgs false
namespace Go.Proofs.Ytcfhjmflnochcaa
open Go.RowKit
variable {p q : Prop}

theorem one_bytes (xs : List Int) : ∀ u ∈ xs.flatMap cByte, u.oneCell' = true := by
  intro u hu
  simp only [List.mem_flatMap, cByte, List.mem_singleton] at hu
  obtain ⟨x, _, rfl⟩ := hu
  rfl
theorem bytes_len (xs : List Int) : (xs.flatMap cByte).length = xs.length * 1 := flatMap_len cByte_len xs

theorem copyFrame_any (w : World) (f : LFrame) (hl : f.data.length ≤ 1099511627776) (hf : FrameR p w f) :
    Calls Try.prog 82 #[.agg #[.bool f.ext, .int .u32 f.id, .bool f.rtr, .int .i64 f.dlc, .slice f.A f.data.length f.cap]] w
      fun e w' => ∃ A c, e = .returned (.agg #[.bool f.ext, .int .u32 f.id, .bool f.rtr, .int .i64 f.dlc, .slice A f.data.length c]) ∧ BytesR True w' A f.data ∧ InA w.heap.size w'.heap.size A ∧ Below w.heap.size w w' := by
  have hf1 := fun W (h : Below w.heap.size w W) => hf.below h
  clear hf
  go_enter Try.func82, Try.ntmps82
  go_wp2_with (at_builtin; refine wpl_app _ rfl (.tmp 3) (.tmp 5) 44 rfl w.heap.size 5 (.int .u8 0) 1 1 Try.underlying44 infoByte rfl (by omega) (by omega) _ 0 [] rfl (own_empty _ _ _ _ (by simp; omega) _ (by simp)) 5 f.A f.data.length f.cap (f.data.flatMap cByte) rfl (hf1 _ (by repeat first | with_reducible exact Below.refl _ _ | apply bl_alloc)) (bytes_len _) (one_bytes _) (by omega) (by simp; omega) ?_)
  intro A' c' w1 hown hgrow hloc
  have h0 := heap_grown hgrow (heap_old _ (heap_old _ (heap_new (W := w) _ _ rfl))) (by simp [Value.ownBlock]; omega)
  have h1 := heap_grown hgrow (heap_old _ (heap_new (W := w.alloc _) _ (w.heap.size + 1) (by simp))) (by simp [Value.ownBlock])
  have hB := bl_grown (w := w) (by repeat first | with_reducible exact Below.refl _ _ | apply bl_alloc) hgrow (by intro k hk; simp [Value.ownBlock] at hk; omega)
  have hA := own_in hown
  have hR := own_cells hown
  have hne : ∀ a, A' = some a → ¬ (a.block = w.heap.size ∨ a.block = w.heap.size + 1) := fun a ha => by subst ha; simp [Value.ownBlock] at hloc; omega
  obtain ⟨c0, c1, c2, c3, c4, cf⟩ := five h0
  obtain ⟨d0, d1, d2, d3, d4, df⟩ := five h1
  have hz := lt_of_heap h1
  clear hgrow hloc hf1 hown h0 h1
  go_wp2_with fail
  refine bodyPost_ret (v := .agg #[.bool f.ext, .int .u32 f.id, .bool f.rtr, .int .i64 f.dlc, .slice A' f.data.length c']) (by simp [results, Try.results82, go_sem, *]) rfl ⟨A', c', rfl, ?_, by simpa using hA, ?_⟩
  · exact Cells.chg (S := fun k => k = w.heap.size ∨ k = w.heap.size + 1) hR (by repeat first | with_reducible exact Chg.refl _ _ | (refine Chg.set ?_ (fun _ => by simp) _)) hne
  · repeat first | with_reducible exact hB | (refine bl_set ?_ (by simp) _)

theorem take_flat {α : Type} {enc : α → List Value} {xs : List α} {k : Nat} (hk : k < xs.length) : (xs.take (k + 1)).flatMap enc = (xs.take k).flatMap enc ++ enc xs[k] := by
  rw [List.take_succ_eq_append_getElem hk, List.flatMap_append]; simp

theorem l1copyFrame_any (w : World) (f : LFrame) (hl : f.data.length ≤ 1099511627776) (hf : FrameR p w f) :
    Calls Try.prog 69 #[.agg #[.bool f.ext, .int .u32 f.id, .bool f.rtr, .int .i64 f.dlc, .slice f.A f.data.length f.cap]] w
      fun e w' => ∃ A c, e = .returned (.agg #[.bool f.ext, .int .u32 f.id, .bool f.rtr, .int .i64 f.dlc, .slice A f.data.length c]) ∧ BytesR True w' A f.data ∧ InA w.heap.size w'.heap.size A ∧ Below w.heap.size w w' := by
  obtain ⟨ext, id, rtr, dlc, fA, cap, data⟩ := f
  have hf1 := fun W (h : Below w.heap.size w W) => BytesR.below hf h
  clear hf
  dsimp only at *
  go_enter Try.func69, Try.ntmps69
  go_wp2_with fail
  go_loopw [3, 4] (fun d i wr => ∃ (k : Nat) (A : Option Addr) (c : Nat), k ≤ data.length ∧ i = .int .i64 k ∧ d = .slice A k c ∧ wr.ownsRow (w.heap.size + 2) 5 1 (.slice A k c) k ((data.take k).flatMap cByte) ∧
      wr.heap[w.heap.size]? = some (.cells #[.bool ext, .int .u32 id, .bool rtr, .int .i64 dlc, .slice fA data.length cap] 49 (0, 0)) ∧
      wr.heap[w.heap.size + 1]? = some (.cells #[.bool false, .int .u32 0, .bool false, .int .i64 0, .slice none 0 0] 49 (0, 0)) ∧ Below w.heap.size w wr) (fun _ i _ => data.length - (intOf i).toNat)
  case atStart => exact ⟨0, _, _, by omega, rfl, rfl, own_empty _ _ _ _ (by simp) _ (by simp), heap_old _ (heap_old _ (heap_new _ _ rfl)), heap_old _ (heap_new _ _ (by simp)), (by repeat first | with_reducible exact Below.refl _ _ | with_reducible assumption | with_reducible refine bl_alloc ?_ _ | with_reducible refine bl_drewN ?_ _ | with_reducible refine Below.drew ?_ | (refine bl_set ?_ (by simp <;> omega) _))⟩
  case round =>
    obtain ⟨k, A, c, hk, rfl, rfl, hown, h0, h1, hb⟩ := hrel
    obtain ⟨c0, c1, c2, c3, c4, cf⟩ := five h0
    obtain ⟨d0, d1, d2, d3, d4, df⟩ := five h1
    have z1 := lt_of_heap h1
    by_cases hlt : k < data.length
    · obtain ⟨g, o, rfl, hg, ⟨e0⟩⟩ := byteAt (hf1 wr hb) k hlt
      clear hf1
      go_wp2_with (at_builtin; refine wpl_app _ rfl (.tmp 13) (.tmp 19) 44 rfl (w.heap.size + 2) 5 (.int .u8 0) 1 1 Try.underlying44 infoByte rfl (by omega) (by omega) _ k _ rfl (hown.alloc _) 5 _ 1 1 [.int .u8 data[k]] rfl (cells_new _ [_] _ _ (by simp)) rfl (by simp [Value.oneCell']) (by omega) (by simp; omega) ?_)
      intro A' c' w1 hown' hgrow hloc
      have h0' := heap_grown hgrow (heap_old _ h0) (fun h => by have := own_ge hown h.symm; omega)
      have h1' := heap_grown hgrow (heap_old _ h1) (fun h => by have := own_ge hown h.symm; omega)
      have hb' := bl_grown (bl_alloc hb _) hgrow (fun k hk => by have := own_ge hown hk; omega)
      change w1.ownsRow _ _ _ _ _ (_ ++ cByte data[k]) at hown'
      rw [← take_flat hlt] at hown'
      clear hgrow hloc hown h0 h1 c0 c1 c2 c3 c4 cf d0 d1 d2 d3 d4 df
      go_wp2_with fail
      go_roundw
      case rel => exact ⟨k + 1, A', c', by omega, by go_num, rfl, hown', h0', h1', hb'⟩
      case measure => simp [intOf]; omega
    · obtain rfl : k = data.length := by omega
      rw [List.take_length] at hown
      have hR := own_cells hown
      have hA := own_in hown
      clear hf1 hown h0 h1
      go_wp2_with fail
      refine bodyPost_ret (v := .agg #[.bool ext, .int .u32 id, .bool rtr, .int .i64 dlc, .slice A data.length c]) (by simp [results, Try.results69, go_sem, *]) rfl ⟨A, c, rfl, ?_, fun a ha => by have := hA a ha; simp; omega, (by repeat first | with_reducible exact Below.refl _ _ | with_reducible assumption | with_reducible refine bl_alloc ?_ _ | with_reducible refine bl_drewN ?_ _ | with_reducible refine Below.drew ?_ | (refine bl_set ?_ (by simp <;> omega) _))⟩
      exact Cells.chg (S := fun k => k = w.heap.size + 1) hR (by repeat first | with_reducible exact Chg.refl _ _ | with_reducible assumption | with_reducible refine Chg.alloc ?_ _ | with_reducible refine Chg.drewN ?_ _ | with_reducible refine Chg.drew ?_ | (refine Chg.set ?_ (by simp <;> omega) _)) (fun a ha => by have := hA a ha; omega)
end Go.Proofs.Ytcfhjmflnochcaa
