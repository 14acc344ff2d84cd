/-
  The holding functions of the laws: over a row that holds the marks they count on.
-/
import Derived.Test.YtcfhjmflnochcaaMark
set_option linter.unusedVariables false
set_option linter.unusedSimpArgs false
namespace Go.Proofs.Ytcfhjmflnochcaa
open Go.RowKit
variable {p q : Prop}

theorem marks_get {α : Type} {m : α → Int → α} {adv : α → Nat} {xs : List α} {k : Int} {j : Nat} (hj : j < xs.length) (h : j < (marks m adv xs k).length) : (marks m adv xs k)[j] = m xs[j] (k + (dsum adv (xs.take j) : Nat)) := by
  have hl : (marks m adv (xs.take j) k).length = j := by rw [marks_len, List.length_take]; omega
  rw [List.getElem_eq_iff]
  conv => lhs; rw [← List.take_append_drop (j + 1) xs, marks_append, marks_take hj]
  rw [List.getElem?_append_left (by simp [marks_len]; omega), List.getElem?_append_right (by omega), hl, Nat.sub_self]
  rfl

theorem heldByteS_any (w : World) (A : Option Addr) (c n : Nat) (k : Int) (k0 : 0 ≤ k) (k1 : k ≤ 4398046511104) (lx : n ≤ 4194304) (hx : BytesR p w A (mB n k)) :
    Calls Try.prog 86 #[.slice A n c, .int .i64 k] w fun e w' => e = .returned (.int .i64 (k + n)) ∧ Below w.heap.size w w' := by
  go_enter Try.func86, Try.ntmps86
  go_wp2_with fail
  go_loopw [1, 5] (fun l i wr => ∃ j : Nat, j ≤ n ∧ i = .int .i64 j ∧ l = .int .i64 (k + j) ∧ Below w.heap.size w wr) (fun _ i _ => n - (intOf i).toNat)
  case atStart => exact ⟨0, by omega, rfl, by simp, Below.refl _ _⟩
  case round =>
    obtain ⟨j, hj, rfl, rfl, hb⟩ := hrel
    by_cases hlt : j < n
    · obtain ⟨g, o, rfl, hg, ⟨e0⟩⟩ := byteAt (hx.below hb) j (by rw [mB_len]; exact hlt)
      rw [mB_get] at e0
      clear hx
      go_wp2_with fail
      go_roundw
      case rel => exact ⟨j + 1, by omega, by go_num, by go_num, hb⟩
      case measure => simp [intOf]; omega
    · obtain rfl : j = n := by omega
      clear hx
      go_wp2_with fail
      go_ret
      exact ⟨rfl, hb⟩

set_option maxRecDepth 100000 in
theorem heldFilterS_any (w : World) (A : Option Addr) (c : Nat) (e1 : TypeId) (xs : List DFilter) (k : Int) (k0 : 0 ≤ k) (k1 : k ≤ 1099511627776) (lx : xs.length ≤ 4194304) (hs : dsum aFilter xs ≤ 1099511627776) (hx : Cells p w e1 A ((marks mFilter aFilter xs k).flatMap DFilter.cs)) :
    Calls Try.prog 46 #[.slice A xs.length c, .int .i64 k] w fun e w' => e = .returned (.int .i64 (k + (dsum aFilter xs : Nat))) ∧ Below w.heap.size w w' := by
  have hf1 := fun W (h : Below w.heap.size w W) => Cells.below hx h
  clear hx
  go_enter Try.func46, Try.ntmps46
  go_wp2_with fail
  go_loopw [1, 5] (fun l i wr => ∃ j : Nat, j ≤ xs.length ∧ i = .int .i64 j ∧ l = .int .i64 (k + (dsum aFilter (xs.take j) : Nat)) ∧ Below w.heap.size w wr) (fun _ i _ => xs.length - (intOf i).toNat)
  case atStart => exact ⟨0, by omega, rfl, by simp [dsum], Below.refl _ _⟩
  case round =>
    obtain ⟨j, hj, rfl, rfl, hb⟩ := hrel
    by_cases hlt : j < xs.length
    · have hl : j < (marks mFilter aFilter xs k).length := by rw [marks_len]; exact hlt
      have hg := marks_get (m := mFilter) (adv := aFilter) (k := k) hlt hl
      have HT : Hid _ := dsum_take (f := aFilter) hlt
      have HL : Hid _ := dsum_le (f := aFilter) xs (j + 1)
      have hD0 : dsum aFilter (xs.take j) ≤ 1099511627776 := Nat.le_trans (dsum_le _ _) hs
      obtain ⟨g, o, rfl, hgl, ⟨e0, e1, e2⟩⟩ := filterAt (hf1 wr hb) j hl
      generalize dsum aFilter (xs.take j) = D at *
      rw [hg] at e0 e1 e2
      simp only [mFilter, m3] at e0 e1 e2
      clear hf1 hg
      go_wp2_with fail
      go_roundw
      case rel => exact ⟨j + 1, by omega, by go_num, by rw [HT.out]; simp only [aFilter]; go_num, hb⟩
      case measure => simp [intOf]; omega
    · obtain rfl : j = xs.length := by omega
      rw [List.take_length]
      clear hf1
      go_wp2_with fail
      go_ret
      exact ⟨rfl, hb⟩

set_option maxRecDepth 100000 in
theorem heldFrameS_any (w : World) (A : Option Addr) (c : Nat) (e1 : TypeId) (xs : List LFrame) (k : Int) (k0 : 0 ≤ k) (k1 : k ≤ 1099511627776) (lx : xs.length ≤ 4194304) (hs : dsum aFrame xs ≤ 1099511627776) (hd : ∀ x ∈ xs, x.data.length ≤ 4194304) (hx : FramesR p w e1 A (marks mFrame aFrame xs k)) :
    Calls Try.prog 48 #[.slice A xs.length c, .int .i64 k] w fun e w' => e = .returned (.int .i64 (k + (dsum aFrame xs : Nat))) ∧ Below w.heap.size w w' := by
  have hf1 := fun W (h : Below w.heap.size w W) => FramesR.below hx h
  clear hx
  go_enter Try.func48, Try.ntmps48
  go_wp2_with fail
  go_loopw [1, 5] (fun l i wr => ∃ j : Nat, j ≤ xs.length ∧ i = .int .i64 j ∧ l = .int .i64 (k + (dsum aFrame (xs.take j) : Nat)) ∧ Below w.heap.size w wr) (fun _ i _ => xs.length - (intOf i).toNat)
  case atStart => exact ⟨0, by omega, rfl, by simp [dsum], Below.refl _ _⟩
  case round =>
    obtain ⟨j, hj, rfl, rfl, hb⟩ := hrel
    by_cases hlt : j < xs.length
    · have hl : j < (marks mFrame aFrame xs k).length := by rw [marks_len]; exact hlt
      have hg := marks_get (m := mFrame) (adv := aFrame) (k := k) hlt hl
      have HT : Hid _ := dsum_take (f := aFrame) hlt
      have HL : Hid _ := dsum_le (f := aFrame) xs (j + 1)
      have hD0 : dsum aFrame (xs.take j) ≤ 1099511627776 := Nat.le_trans (dsum_le _ _) hs
      obtain ⟨g, o, rfl, hgl, ⟨e0, e1, e2, e3, e4⟩⟩ := frameAt (hf1 wr hb).1 j hl
      have hfr := (hf1 wr hb).2 _ (List.getElem_mem hl)
      have hdj := hd _ (List.getElem_mem hlt)
      generalize dsum aFrame (xs.take j) = D at *
      rw [hg] at e0 e1 e2 e3 e4 hfr
      simp only [mFrame, m3, mB_len] at e0 e1 e2 e3 e4
      have hfr2 := fun W (h : Below wr.heap.size wr W) => FrameR.below hfr h
      clear hf1 hg hd hfr
      go_wp2_with fail
      refine (heldByteS_any (p := p) _ xs[j].A _ xs[j].data.length _ (by omega) (by have h1 := HT.out; have h2 := HL.out; simp only [aFrame] at h1; omega) hdj (by exact hfr2 _ (Below.refl _ _))).mono ?_; rintro e w2 ⟨rfl, hb2⟩
      replace hb : Below w.heap.size w w2 := bl_then hb hb2
      clear hb2 hfr2 e0 e1 e2 e3 e4
      go_wp2_with fail
      go_roundw
      case rel => exact ⟨j + 1, by omega, by go_num, by rw [HT.out]; simp only [aFrame]; go_num, hb⟩
      case measure => simp [intOf]; omega
    · obtain rfl : j = xs.length := by omega
      rw [List.take_length]
      clear hf1
      go_wp2_with fail
      go_ret
      exact ⟨rfl, hb⟩

set_option maxRecDepth 100000 in
theorem heldBoxS_any (w : World) (A : Option Addr) (c : Nat) (e1 : TypeId) (xs : List LBox) (k : Int) (k0 : 0 ≤ k) (k1 : k ≤ 1099511627776) (lx : xs.length ≤ 4194304) (hs : dsum aBox xs ≤ 1099511627776) (hd : ∀ x ∈ xs, x.f.data.length ≤ 4194304) (hx : BoxesR p w e1 A (marks mBox aBox xs k)) :
    Calls Try.prog 47 #[.slice A xs.length c, .int .i64 k] w fun e w' => e = .returned (.int .i64 (k + (dsum aBox xs : Nat))) ∧ Below w.heap.size w w' := by
  have hf1 := fun W (h : Below w.heap.size w W) => BoxesR.below hx h
  clear hx
  go_enter Try.func47, Try.ntmps47
  go_wp2_with fail
  go_loopw [1, 5] (fun l i wr => ∃ j : Nat, j ≤ xs.length ∧ i = .int .i64 j ∧ l = .int .i64 (k + (dsum aBox (xs.take j) : Nat)) ∧ Below w.heap.size w wr) (fun _ i _ => xs.length - (intOf i).toNat)
  case atStart => exact ⟨0, by omega, rfl, by simp [dsum], Below.refl _ _⟩
  case round =>
    obtain ⟨j, hj, rfl, rfl, hb⟩ := hrel
    by_cases hlt : j < xs.length
    · have hl : j < (marks mBox aBox xs k).length := by rw [marks_len]; exact hlt
      have hg := marks_get (m := mBox) (adv := aBox) (k := k) hlt hl
      have HT : Hid _ := dsum_take (f := aBox) hlt
      have HL : Hid _ := dsum_le (f := aBox) xs (j + 1)
      have hD0 : dsum aBox (xs.take j) ≤ 1099511627776 := Nat.le_trans (dsum_le _ _) hs
      obtain ⟨g, o, rfl, hgl, ⟨e0, e1, e2, e3, e4, e5, e6, e7⟩⟩ := boxAt (hf1 wr hb).1 j hl
      have hfr := (hf1 wr hb).2 _ (List.getElem_mem hl)
      have hdj := hd _ (List.getElem_mem hlt)
      generalize dsum aBox (xs.take j) = D at *
      rw [hg] at e0 e1 e2 e3 e4 e5 e6 e7 hfr
      simp only [mBox, mFrame, m3, mB_len] at e0 e1 e2 e3 e4 e5 e6 e7
      have hfr2 := fun W (h : Below wr.heap.size wr W) => FrameR.below hfr h
      clear hf1 hg hd hfr
      go_wp2_with fail
      refine (heldByteS_any (p := p) _ xs[j].f.A _ xs[j].f.data.length _ (by omega) (by have h1 := HT.out; have h2 := HL.out; simp only [aBox] at h1; omega) hdj (by exact hfr2 _ (Below.refl _ _))).mono ?_; rintro e w2 ⟨rfl, hb2⟩
      replace hb : Below w.heap.size w w2 := bl_then hb hb2
      clear hb2 hfr2 e0 e1 e2 e3 e4 e5 e6 e7
      go_wp2_with fail
      go_roundw
      case rel => exact ⟨j + 1, by omega, by go_num, by rw [HT.out]; simp only [aBox]; go_num, hb⟩
      case measure => simp [intOf]; omega
    · obtain rfl : j = xs.length := by omega
      rw [List.take_length]
      clear hf1
      go_wp2_with fail
      go_ret
      exact ⟨rfl, hb⟩

set_option maxRecDepth 100000 in
theorem heldEventS_any (w : World) (A : Option Addr) (c : Nat) (e1 : TypeId) (xs : List LEvent) (k : Int) (k0 : 0 ≤ k) (k1 : k ≤ 1099511627776) (lx : xs.length ≤ 4194304) (hs : dsum aEvent xs ≤ 1099511627776) (hd : ∀ x ∈ xs, x.f.data.length ≤ 4194304) (hx : EventsR p w e1 A (marks mEvent aEvent xs k)) :
    Calls Try.prog 49 #[.slice A xs.length c, .int .i64 k] w fun e w' => e = .returned (.int .i64 (k + (dsum aEvent xs : Nat))) ∧ Below w.heap.size w w' := by
  have hf1 := fun W (h : Below w.heap.size w W) => EventsR.below hx h
  clear hx
  go_enter Try.func49, Try.ntmps49
  go_wp2_with fail
  go_loopw [1, 5] (fun l i wr => ∃ j : Nat, j ≤ xs.length ∧ i = .int .i64 j ∧ l = .int .i64 (k + (dsum aEvent (xs.take j) : Nat)) ∧ Below w.heap.size w wr) (fun _ i _ => xs.length - (intOf i).toNat)
  case atStart => exact ⟨0, by omega, rfl, by simp [dsum], Below.refl _ _⟩
  case round =>
    obtain ⟨j, hj, rfl, rfl, hb⟩ := hrel
    by_cases hlt : j < xs.length
    · have hl : j < (marks mEvent aEvent xs k).length := by rw [marks_len]; exact hlt
      have hg := marks_get (m := mEvent) (adv := aEvent) (k := k) hlt hl
      have HT : Hid _ := dsum_take (f := aEvent) hlt
      have HL : Hid _ := dsum_le (f := aEvent) xs (j + 1)
      have hD0 : dsum aEvent (xs.take j) ≤ 1099511627776 := Nat.le_trans (dsum_le _ _) hs
      obtain ⟨g, o, rfl, hgl, ⟨e0, e1, e2, e3, e4, e5, e6, e7⟩⟩ := eventAt (hf1 wr hb).1 j hl
      have hfr := (hf1 wr hb).2 _ (List.getElem_mem hl)
      have hdj := hd _ (List.getElem_mem hlt)
      generalize dsum aEvent (xs.take j) = D at *
      rw [hg] at e0 e1 e2 e3 e4 e5 e6 e7 hfr
      simp only [mEvent, mFrame, m3, mB_len] at e0 e1 e2 e3 e4 e5 e6 e7
      have hfr2 := fun W (h : Below wr.heap.size wr W) => FrameR.below hfr h
      clear hf1 hg hd hfr
      go_wp2_with fail
      refine (heldByteS_any (p := p) _ xs[j].f.A _ xs[j].f.data.length _ (by omega) (by have h1 := HT.out; have h2 := HL.out; simp only [aEvent] at h1; omega) hdj (by exact hfr2 _ (Below.refl _ _))).mono ?_; rintro e w2 ⟨rfl, hb2⟩
      replace hb : Below w.heap.size w w2 := bl_then hb hb2
      clear hb2 hfr2 e0 e1 e2 e3 e4 e5 e6 e7
      go_wp2_with fail
      go_roundw
      case rel => exact ⟨j + 1, by omega, by go_num, by rw [HT.out]; simp only [aEvent]; go_num, hb⟩
      case measure => simp [intOf]; omega
    · obtain rfl : j = xs.length := by omega
      rw [List.take_length]
      clear hf1
      go_wp2_with fail
      go_ret
      exact ⟨rfl, hb⟩

end Go.Proofs.Ytcfhjmflnochcaa