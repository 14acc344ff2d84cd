/-
  The measuring functions of the laws: what is left of a number when the sizes have been taken off it, or -1.
-/
import Derived.Test.YtcfhjmflnochcaaApp
set_option linter.unusedVariables false
set_option linter.unusedSimpArgs false
namespace Go.Proofs.Ytcfhjmflnochcaa
open Go.RowKit
variable {p q : Prop}

/-- What is left, or -1. -/
def sub (left : Int) (n : Nat) : Int := if (n : Int) ≤ left then left - n else -1
theorem sub_pos {left : Int} {n : Nat} (h : (n : Int) ≤ left) : sub left n = left - n := if_pos h
theorem sub_neg {left : Int} {n : Nat} (h : ¬ (n : Int) ≤ left) : sub left n = -1 := if_neg h
def dsum {α : Type} (f : α → Nat) (xs : List α) : Nat := (xs.map f).sum
theorem dsum_take {α : Type} {f : α → Nat} {xs : List α} {k : Nat} (hk : k < xs.length) : dsum f (xs.take (k + 1)) = dsum f (xs.take k) + f xs[k] := by
  unfold dsum
  rw [List.take_succ_eq_append_getElem hk, List.map_append, List.sum_append]; simp
theorem ret_pos {left v : Int} {n : Nat} (h : (n : Int) ≤ left) (hv : v = left - n) : Ending.returned (.int .i64 v) = .returned (.int .i64 (sub left n)) := by rw [sub_pos h, hv]
theorem ret_neg {left : Int} {n : Nat} (h : ¬ (n : Int) ≤ left) : Ending.returned (.int .i64 (-1)) = .returned (.int .i64 (sub left n)) := by rw [sub_neg h]
theorem dsum_le {α : Type} {f : α → Nat} (xs : List α) (k : Nat) : dsum f (xs.take k) ≤ dsum f xs := by
  have h : dsum f xs = dsum f (xs.take k) + dsum f (xs.drop k) := by
    unfold dsum
    rw [← List.sum_append, ← List.map_append, List.take_append_drop]
  omega
theorem dsum_mem {α : Type} {f : α → Nat} {xs : List α} {x : α} (h : x ∈ xs) : f x ≤ dsum f xs := by
  unfold dsum
  induction xs with
  | nil => cases h
  | cons y ys ih =>
    rcases List.mem_cons.1 h with rfl | h
    · simp
    · have := ih h; simp; omega

theorem szByteS_any (w : World) (A : Option Addr) (c n : Nat) (left : Int) (h0 : 0 ≤ left) (h1 : left ≤ 1048576) (hn : n ≤ 9223372036854775807) :
    Calls Try.prog 50 #[.slice A n c, .int .i64 left] w fun e w' => e = .returned (.int .i64 (sub left n)) ∧ Below w.heap.size w w' := by
  by_cases h : (n : Int) ≤ left
  · go_enter Try.func50, Try.ntmps50
    go_wp2_with fail
    go_ret
    exact ⟨ret_pos (by omega) rfl, Below.refl _ _⟩
  · go_enter Try.func50, Try.ntmps50
    go_wp2_with fail
    go_ret
    exact ⟨ret_neg (by omega), Below.refl _ _⟩
theorem szFilterS_any (w : World) (A : Option Addr) (c n : Nat) (left : Int) (h0 : 0 ≤ left) (h1 : left ≤ 1048576) (hn : n ≤ 9223372036854775807) :
    Calls Try.prog 21 #[.slice A n c, .int .i64 left] w fun e w' => e = .returned (.int .i64 (sub left n)) ∧ Below w.heap.size w w' := by
  by_cases h : (n : Int) ≤ left
  · go_enter Try.func21, Try.ntmps21
    go_wp2_with fail
    go_ret
    exact ⟨ret_pos (by omega) rfl, Below.refl _ _⟩
  · go_enter Try.func21, Try.ntmps21
    go_wp2_with fail
    go_ret
    exact ⟨ret_neg (by omega), Below.refl _ _⟩

theorem szFrame_any (w : World) (f : LFrame) (left : Int) (h0 : 0 ≤ left) (h1 : left ≤ 1048576) (hn : f.data.length ≤ 9223372036854775807) :
    Calls Try.prog 13 #[.agg #[.bool f.ext, .int .u32 f.id, .bool f.rtr, .int .i64 f.dlc, .slice f.A f.data.length f.cap], .int .i64 left] w fun e w' => e = .returned (.int .i64 (sub left f.data.length)) ∧ Below w.heap.size w w' := by
  by_cases h : (f.data.length : Int) ≤ left
  · go_enter Try.func13, Try.ntmps13
    go_wp2_with fail
    refine (szByteS_any _ _ _ _ _ h0 h1 hn).mono ?_; rintro e w1 ⟨rfl, hb⟩
    rw [sub_pos h]
    replace hb : Below w.heap.size w w1 := bl_then (by repeat first | with_reducible exact Below.refl _ _ | with_reducible assumption | with_reducible refine bl_alloc ?_ _ | with_reducible refine bl_drewN ?_ _ | with_reducible refine Below.drew ?_ | (refine bl_set ?_ (by simp <;> omega) _)) hb
    go_wp2_with fail
    go_ret
    exact ⟨ret_pos (by omega) rfl, hb⟩
  · go_enter Try.func13, Try.ntmps13
    go_wp2_with fail
    refine (szByteS_any _ _ _ _ _ h0 h1 hn).mono ?_; rintro e w1 ⟨rfl, hb⟩
    rw [sub_neg (by omega)]
    replace hb : Below w.heap.size w w1 := bl_then (by repeat first | with_reducible exact Below.refl _ _ | with_reducible assumption | with_reducible refine bl_alloc ?_ _ | with_reducible refine bl_drewN ?_ _ | with_reducible refine Below.drew ?_ | (refine bl_set ?_ (by simp <;> omega) _)) hb
    go_wp2_with fail
    go_ret
    exact ⟨ret_neg (by omega), hb⟩

theorem szBox_any (w : World) (f : LBox) (left : Int) (h0 : 0 ≤ left) (h1 : left ≤ 1048576) (hn : f.f.data.length ≤ 9223372036854775807) :
    Calls Try.prog 58 #[.agg #[.int .i64 f.state, .int .i64 f.tag, .int .i64 f.stamp, .bool f.f.ext, .int .u32 f.f.id, .bool f.f.rtr, .int .i64 f.f.dlc, .slice f.f.A f.f.data.length f.f.cap], .int .i64 left] w fun e w' => e = .returned (.int .i64 (sub left f.f.data.length)) ∧ Below w.heap.size w w' := by
  by_cases h : (f.f.data.length : Int) ≤ left
  · go_enter Try.func58, Try.ntmps58
    go_wp2_with fail
    refine (szFrame_any _ f.f _ h0 h1 hn).mono ?_; rintro e w1 ⟨rfl, hb⟩
    rw [sub_pos h]
    replace hb : Below w.heap.size w w1 := bl_then (by repeat first | with_reducible exact Below.refl _ _ | with_reducible assumption | with_reducible refine bl_alloc ?_ _ | with_reducible refine bl_drewN ?_ _ | with_reducible refine Below.drew ?_ | (refine bl_set ?_ (by simp <;> omega) _)) hb
    go_wp2_with fail
    go_ret
    exact ⟨ret_pos (by omega) rfl, hb⟩
  · go_enter Try.func58, Try.ntmps58
    go_wp2_with fail
    refine (szFrame_any _ f.f _ h0 h1 hn).mono ?_; rintro e w1 ⟨rfl, hb⟩
    rw [sub_neg (by omega)]
    replace hb : Below w.heap.size w w1 := bl_then (by repeat first | with_reducible exact Below.refl _ _ | with_reducible assumption | with_reducible refine bl_alloc ?_ _ | with_reducible refine bl_drewN ?_ _ | with_reducible refine Below.drew ?_ | (refine bl_set ?_ (by simp <;> omega) _)) hb
    go_wp2_with fail
    go_ret
    exact ⟨ret_neg (by omega), hb⟩

theorem szEvent_any (w : World) (f : LEvent) (left : Int) (h0 : 0 ≤ left) (h1 : left ≤ 1048576) (hn : f.f.data.length ≤ 9223372036854775807) :
    Calls Try.prog 59 #[.agg #[.int .i64 f.kind, .int .i64 f.a, .int .i64 f.b, .bool f.f.ext, .int .u32 f.f.id, .bool f.f.rtr, .int .i64 f.f.dlc, .slice f.f.A f.f.data.length f.f.cap], .int .i64 left] w fun e w' => e = .returned (.int .i64 (sub left f.f.data.length)) ∧ Below w.heap.size w w' := by
  by_cases h : (f.f.data.length : Int) ≤ left
  · go_enter Try.func59, Try.ntmps59
    go_wp2_with fail
    refine (szFrame_any _ f.f _ h0 h1 hn).mono ?_; rintro e w1 ⟨rfl, hb⟩
    rw [sub_pos h]
    replace hb : Below w.heap.size w w1 := bl_then (by repeat first | with_reducible exact Below.refl _ _ | with_reducible assumption | with_reducible refine bl_alloc ?_ _ | with_reducible refine bl_drewN ?_ _ | with_reducible refine Below.drew ?_ | (refine bl_set ?_ (by simp <;> omega) _)) hb
    go_wp2_with fail
    go_ret
    exact ⟨ret_pos (by omega) rfl, hb⟩
  · go_enter Try.func59, Try.ntmps59
    go_wp2_with fail
    refine (szFrame_any _ f.f _ h0 h1 hn).mono ?_; rintro e w1 ⟨rfl, hb⟩
    rw [sub_neg (by omega)]
    replace hb : Below w.heap.size w w1 := bl_then (by repeat first | with_reducible exact Below.refl _ _ | with_reducible assumption | with_reducible refine bl_alloc ?_ _ | with_reducible refine bl_drewN ?_ _ | with_reducible refine Below.drew ?_ | (refine bl_set ?_ (by simp <;> omega) _)) hb
    go_wp2_with fail
    go_ret
    exact ⟨ret_neg (by omega), hb⟩

theorem szFrameS_any (w : World) (A : Option Addr) (c : Nat) (e1 : TypeId) (xs : List LFrame) (left : Int) (h0 : 0 ≤ left) (h1 : left ≤ 1048576) (hn : xs.length ≤ 9223372036854775807) (hd : ∀ x ∈ xs, x.data.length ≤ 9223372036854775807)
    (hx : FramesR p w e1 A xs) :
    Calls Try.prog 23 #[.slice A xs.length c, .int .i64 left] w fun e w' => e = .returned (.int .i64 (sub left (xs.length + dsum (fun x : LFrame => x.data.length) xs))) ∧ Below w.heap.size w w' := by
  have hf1 := fun W (h : Below w.heap.size w W) => FramesR.below hx h
  clear hx
  by_cases h : (xs.length : Int) ≤ left
  case neg =>
    go_enter Try.func23, Try.ntmps23
    go_wp2_with fail
    go_ret
    exact ⟨ret_neg (by omega), Below.refl _ _⟩
  go_enter Try.func23, Try.ntmps23
  go_wp2_with fail
  go_loopw [1, 5] (fun l i wr => ∃ k : Nat, k ≤ xs.length ∧ i = .int .i64 k ∧ l = .int .i64 (left - xs.length - dsum (fun x : LFrame => x.data.length) (xs.take k)) ∧ 0 ≤ left - xs.length - dsum (fun x : LFrame => x.data.length) (xs.take k) ∧ Below w.heap.size w wr) (fun _ i _ => xs.length - (intOf i).toNat)
  case atStart => exact ⟨0, by omega, rfl, by simp [dsum], by simp [dsum]; omega, Below.refl _ _⟩
  case round =>
    obtain ⟨k, hk, rfl, rfl, hp, hb⟩ := hrel
    by_cases hlt : k < xs.length
    · obtain ⟨g, o, rfl, hg, ⟨c0, c1, c2, c3, c4⟩⟩ := frameAt (hf1 wr hb).1 k hlt
      have hlk := hd _ (List.getElem_mem hlt)
      have HT : Hid _ := dsum_take (f := (fun x : LFrame => x.data.length)) hlt
      have HM : Hid _ := dsum_le (f := (fun x : LFrame => x.data.length)) xs (k + 1)
      clear hf1 hd
      generalize hD : dsum (fun x : LFrame => x.data.length) (xs.take k) = D at *
      clear hD
      go_wp2_with fail
      refine (szFrame_any _ xs[k] _ hp (by omega) hlk).mono ?_; rintro e w2 ⟨rfl, hb2⟩
      replace hb : Below w.heap.size w w2 := bl_then hb hb2
      clear hb2
      by_cases hs : (xs[k].data.length : Int) ≤ left - xs.length - D
      · rw [sub_pos hs]
        go_wp2_with fail
        go_roundw
        case rel => exact ⟨k + 1, by omega, by go_num, by rw [HT.out]; go_num, by have := HT.out; omega, hb⟩
        case measure => simp [intOf]; omega
      · rw [sub_neg hs]
        go_wp2_with fail
        go_ret
        exact ⟨ret_neg (by have := HT.out; have := HM.out; omega), hb⟩
    · obtain rfl : k = xs.length := by omega
      rw [List.take_length] at hp ⊢
      clear hf1 hd
      go_wp2_with fail
      go_ret
      exact ⟨ret_pos (by omega) (by omega), hb⟩

theorem szBoxS_any (w : World) (A : Option Addr) (c : Nat) (e1 : TypeId) (xs : List LBox) (left : Int) (h0 : 0 ≤ left) (h1 : left ≤ 1048576) (hn : xs.length ≤ 9223372036854775807) (hd : ∀ x ∈ xs, x.f.data.length ≤ 9223372036854775807)
    (hx : BoxesR p w e1 A xs) :
    Calls Try.prog 22 #[.slice A xs.length c, .int .i64 left] w fun e w' => e = .returned (.int .i64 (sub left (xs.length + dsum (fun x : LBox => x.f.data.length) xs))) ∧ Below w.heap.size w w' := by
  have hf1 := fun W (h : Below w.heap.size w W) => BoxesR.below hx h
  clear hx
  by_cases h : (xs.length : Int) ≤ left
  case neg =>
    go_enter Try.func22, Try.ntmps22
    go_wp2_with fail
    go_ret
    exact ⟨ret_neg (by omega), Below.refl _ _⟩
  go_enter Try.func22, Try.ntmps22
  go_wp2_with fail
  go_loopw [1, 5] (fun l i wr => ∃ k : Nat, k ≤ xs.length ∧ i = .int .i64 k ∧ l = .int .i64 (left - xs.length - dsum (fun x : LBox => x.f.data.length) (xs.take k)) ∧ 0 ≤ left - xs.length - dsum (fun x : LBox => x.f.data.length) (xs.take k) ∧ Below w.heap.size w wr) (fun _ i _ => xs.length - (intOf i).toNat)
  case atStart => exact ⟨0, by omega, rfl, by simp [dsum], by simp [dsum]; omega, Below.refl _ _⟩
  case round =>
    obtain ⟨k, hk, rfl, rfl, hp, hb⟩ := hrel
    by_cases hlt : k < xs.length
    · obtain ⟨g, o, rfl, hg, ⟨c0, c1, c2, c3, c4, c5, c6, c7⟩⟩ := boxAt (hf1 wr hb).1 k hlt
      have hlk := hd _ (List.getElem_mem hlt)
      have HT : Hid _ := dsum_take (f := (fun x : LBox => x.f.data.length)) hlt
      have HM : Hid _ := dsum_le (f := (fun x : LBox => x.f.data.length)) xs (k + 1)
      clear hf1 hd
      generalize hD : dsum (fun x : LBox => x.f.data.length) (xs.take k) = D at *
      clear hD
      go_wp2_with fail
      refine (szBox_any _ xs[k] _ hp (by omega) hlk).mono ?_; rintro e w2 ⟨rfl, hb2⟩
      replace hb : Below w.heap.size w w2 := bl_then hb hb2
      clear hb2
      by_cases hs : (xs[k].f.data.length : Int) ≤ left - xs.length - D
      · rw [sub_pos hs]
        go_wp2_with fail
        go_roundw
        case rel => exact ⟨k + 1, by omega, by go_num, by rw [HT.out]; go_num, by have := HT.out; omega, hb⟩
        case measure => simp [intOf]; omega
      · rw [sub_neg hs]
        go_wp2_with fail
        go_ret
        exact ⟨ret_neg (by have := HT.out; have := HM.out; omega), hb⟩
    · obtain rfl : k = xs.length := by omega
      rw [List.take_length] at hp ⊢
      clear hf1 hd
      go_wp2_with fail
      go_ret
      exact ⟨ret_pos (by omega) (by omega), hb⟩

theorem szEventS_any (w : World) (A : Option Addr) (c : Nat) (e1 : TypeId) (xs : List LEvent) (left : Int) (h0 : 0 ≤ left) (h1 : left ≤ 1048576) (hn : xs.length ≤ 9223372036854775807) (hd : ∀ x ∈ xs, x.f.data.length ≤ 9223372036854775807)
    (hx : EventsR p w e1 A xs) :
    Calls Try.prog 24 #[.slice A xs.length c, .int .i64 left] w fun e w' => e = .returned (.int .i64 (sub left (xs.length + dsum (fun x : LEvent => x.f.data.length) xs))) ∧ Below w.heap.size w w' := by
  have hf1 := fun W (h : Below w.heap.size w W) => EventsR.below hx h
  clear hx
  by_cases h : (xs.length : Int) ≤ left
  case neg =>
    go_enter Try.func24, Try.ntmps24
    go_wp2_with fail
    go_ret
    exact ⟨ret_neg (by omega), Below.refl _ _⟩
  go_enter Try.func24, Try.ntmps24
  go_wp2_with fail
  go_loopw [1, 5] (fun l i wr => ∃ k : Nat, k ≤ xs.length ∧ i = .int .i64 k ∧ l = .int .i64 (left - xs.length - dsum (fun x : LEvent => x.f.data.length) (xs.take k)) ∧ 0 ≤ left - xs.length - dsum (fun x : LEvent => x.f.data.length) (xs.take k) ∧ Below w.heap.size w wr) (fun _ i _ => xs.length - (intOf i).toNat)
  case atStart => exact ⟨0, by omega, rfl, by simp [dsum], by simp [dsum]; omega, Below.refl _ _⟩
  case round =>
    obtain ⟨k, hk, rfl, rfl, hp, hb⟩ := hrel
    by_cases hlt : k < xs.length
    · obtain ⟨g, o, rfl, hg, ⟨c0, c1, c2, c3, c4, c5, c6, c7⟩⟩ := eventAt (hf1 wr hb).1 k hlt
      have hlk := hd _ (List.getElem_mem hlt)
      have HT : Hid _ := dsum_take (f := (fun x : LEvent => x.f.data.length)) hlt
      have HM : Hid _ := dsum_le (f := (fun x : LEvent => x.f.data.length)) xs (k + 1)
      clear hf1 hd
      generalize hD : dsum (fun x : LEvent => x.f.data.length) (xs.take k) = D at *
      clear hD
      go_wp2_with fail
      refine (szEvent_any _ xs[k] _ hp (by omega) hlk).mono ?_; rintro e w2 ⟨rfl, hb2⟩
      replace hb : Below w.heap.size w w2 := bl_then hb hb2
      clear hb2
      by_cases hs : (xs[k].f.data.length : Int) ≤ left - xs.length - D
      · rw [sub_pos hs]
        go_wp2_with fail
        go_roundw
        case rel => exact ⟨k + 1, by omega, by go_num, by rw [HT.out]; go_num, by have := HT.out; omega, hb⟩
        case measure => simp [intOf]; omega
      · rw [sub_neg hs]
        go_wp2_with fail
        go_ret
        exact ⟨ret_neg (by have := HT.out; have := HM.out; omega), hb⟩
    · obtain rfl : k = xs.length := by omega
      rw [List.take_length] at hp ⊢
      clear hf1 hd
      go_wp2_with fail
      go_ret
      exact ⟨ret_pos (by omega) (by omega), hb⟩

def hostSize (h : LHost) : Nat := h.filters.length + (h.boxes.length + dsum (fun x : LBox => x.f.data.length) h.boxes) + (h.fifo.length + dsum (fun x : LFrame => x.data.length) h.fifo) + (h.queue.length + dsum (fun x : LEvent => x.f.data.length) h.queue)
theorem hostSize_eq (h : LHost) : hostSize h = h.filters.length + (h.boxes.length + dsum (fun x : LBox => x.f.data.length) h.boxes) + (h.fifo.length + dsum (fun x : LFrame => x.data.length) h.fifo) + (h.queue.length + dsum (fun x : LEvent => x.f.data.length) h.queue) := rfl
/-- No slice of the host is longer than a number can tell. -/
structure HostLens (h : LHost) : Prop where
  f : h.filters.length ≤ 9223372036854775807
  b : h.boxes.length ≤ 9223372036854775807
  q : h.fifo.length ≤ 9223372036854775807
  e : h.queue.length ≤ 9223372036854775807
  bd : ∀ x ∈ h.boxes, x.f.data.length ≤ 9223372036854775807
  qd : ∀ x ∈ h.fifo, x.data.length ≤ 9223372036854775807
  ed : ∀ x ∈ h.queue, x.f.data.length ≤ 9223372036854775807
theorem hostSz_of {h : LHost} (hs : hostSize h ≤ 1048576) : HostSz h := by
  unfold hostSize at hs
  exact ⟨by omega, by omega, by omega, by omega, fun x hx => by have := dsum_mem (f := (fun x : LBox => x.f.data.length)) hx; omega, fun x hx => by have := dsum_mem (f := (fun x : LFrame => x.data.length)) hx; omega, fun x hx => by have := dsum_mem (f := (fun x : LEvent => x.f.data.length)) hx; omega⟩

theorem szHost_any (w : World) (h : LHost) (left : Int) (h0 : 0 ≤ left) (h1 : left ≤ 1048576) (L : HostLens h) (a1 a2 a3 a4 : TypeId) (H : HostR p a1 a2 a3 a4 w h) :
    Calls Try.prog 6 #[.agg #[.int .i64 h.cfg.boxes, .int .i64 h.cfg.fifo, .int .i64 h.cfg.policy, .int .i64 h.cfg.events, .slice h.fA h.filters.length h.fc, .slice h.bA h.boxes.length h.bc, .slice h.qA h.fifo.length h.qc, .slice h.eA h.queue.length h.ec, .int .i64 h.lost, .int .i64 h.stamp], .int .i64 left] w fun e w' => e = .returned (.int .i64 (sub left (hostSize h))) ∧ Below w.heap.size w w' := by
  have hf1 := fun W (k : Below w.heap.size w W) => H.below k
  clear H
  go_enter Try.func6, Try.ntmps6
  go_wp2_with fail
  have hB : Below w.heap.size w (w.alloc (.cells #[.int .i64 h.cfg.boxes, .int .i64 h.cfg.fifo, .int .i64 h.cfg.policy, .int .i64 h.cfg.events, .slice h.fA h.filters.length h.fc, .slice h.bA h.boxes.length h.bc, .slice h.qA h.fifo.length h.qc, .slice h.eA h.queue.length h.ec, .int .i64 h.lost, .int .i64 h.stamp] 29)) := (by repeat first | with_reducible exact Below.refl _ _ | with_reducible assumption | with_reducible refine bl_alloc ?_ _ | with_reducible refine bl_drewN ?_ _ | with_reducible refine Below.drew ?_ | (refine bl_set ?_ (by simp <;> omega) _))
  refine (szFilterS_any _ _ _ _ left h0 h1 L.f).mono ?_; rintro e w1 ⟨rfl, hb⟩
  have hh0 := heap_below hb (heap_new (W := w) _ _ rfl)
  replace hB : Below w.heap.size w w1 := bl_then hB hb
  obtain ⟨c00, c01, c02, c03, c04, c05, c06, c07, c08, c09, cf0⟩ := ten hh0
  have KH0 : Hid _ := hh0
  clear hh0 hb
  obtain ⟨f0, hf0d⟩ : ∃ f, f = h.filters.length := ⟨_, rfl⟩
  have HF0 : Hid _ := hf0d
  rw [← hf0d]
  clear hf0d
  by_cases q0 : (f0 : Int) ≤ left
  case neg =>
    rw [sub_neg q0]
    clear hf1
    go_wp2_with fail
    go_ret
    exact ⟨ret_neg (by have := hostSize_eq h; have := HF0.out; omega), hB⟩
  rw [sub_pos q0]
  go_wp2_with fail
  clear c00 c01 c02 c03 c04 c05 c06 c07 c08 c09 cf0
  refine (szBoxS_any _ _ _ _ _ _ (by omega) (by omega) L.b L.bd (hf1 _ hB).b).mono ?_; rintro e w2 ⟨rfl, hb⟩
  have hh0 := heap_below hb KH0.out
  replace hB : Below w.heap.size w w2 := bl_then hB hb
  obtain ⟨c00, c01, c02, c03, c04, c05, c06, c07, c08, c09, cf0⟩ := ten hh0
  replace KH0 : Hid _ := hh0
  clear hh0 hb
  obtain ⟨f1, hf1d⟩ : ∃ f, f = (h.boxes.length + dsum (fun x : LBox => x.f.data.length) h.boxes) := ⟨_, rfl⟩
  have HF1 : Hid _ := hf1d
  rw [← hf1d]
  clear hf1d
  by_cases q1 : (f1 : Int) ≤ (left - f0)
  case neg =>
    rw [sub_neg q1]
    clear hf1
    go_wp2_with fail
    go_ret
    exact ⟨ret_neg (by have := hostSize_eq h; have := HF0.out; have := HF1.out; omega), hB⟩
  rw [sub_pos q1]
  go_wp2_with fail
  clear c00 c01 c02 c03 c04 c05 c06 c07 c08 c09 cf0
  refine (szFrameS_any _ _ _ _ _ _ (by omega) (by omega) L.q L.qd (hf1 _ hB).q).mono ?_; rintro e w3 ⟨rfl, hb⟩
  have hh0 := heap_below hb KH0.out
  replace hB : Below w.heap.size w w3 := bl_then hB hb
  obtain ⟨c00, c01, c02, c03, c04, c05, c06, c07, c08, c09, cf0⟩ := ten hh0
  replace KH0 : Hid _ := hh0
  clear hh0 hb
  obtain ⟨f2, hf2d⟩ : ∃ f, f = (h.fifo.length + dsum (fun x : LFrame => x.data.length) h.fifo) := ⟨_, rfl⟩
  have HF2 : Hid _ := hf2d
  rw [← hf2d]
  clear hf2d
  by_cases q2 : (f2 : Int) ≤ (left - f0 - f1)
  case neg =>
    rw [sub_neg q2]
    clear hf1
    go_wp2_with fail
    go_ret
    exact ⟨ret_neg (by have := hostSize_eq h; have := HF0.out; have := HF1.out; have := HF2.out; omega), hB⟩
  rw [sub_pos q2]
  go_wp2_with fail
  clear c00 c01 c02 c03 c04 c05 c06 c07 c08 c09 cf0
  refine (szEventS_any _ _ _ _ _ _ (by omega) (by omega) L.e L.ed (hf1 _ hB).e).mono ?_; rintro e w4 ⟨rfl, hb⟩
  have hh0 := heap_below hb KH0.out
  replace hB : Below w.heap.size w w4 := bl_then hB hb
  obtain ⟨c00, c01, c02, c03, c04, c05, c06, c07, c08, c09, cf0⟩ := ten hh0
  replace KH0 : Hid _ := hh0
  clear hh0 hb
  obtain ⟨f3, hf3d⟩ : ∃ f, f = (h.queue.length + dsum (fun x : LEvent => x.f.data.length) h.queue) := ⟨_, rfl⟩
  have HF3 : Hid _ := hf3d
  rw [← hf3d]
  clear hf3d
  by_cases q3 : (f3 : Int) ≤ (left - f0 - f1 - f2)
  case neg =>
    rw [sub_neg q3]
    clear hf1
    go_wp2_with fail
    go_ret
    exact ⟨ret_neg (by have := hostSize_eq h; have := HF0.out; have := HF1.out; have := HF2.out; have := HF3.out; omega), hB⟩
  rw [sub_pos q3]
  go_wp2_with fail
  go_ret
  have := hostSize_eq h
  have := HF0.out
  have := HF1.out
  have := HF2.out
  have := HF3.out
  exact ⟨ret_pos (by omega) (by omega), hB⟩

end Go.Proofs.Ytcfhjmflnochcaa