/-
  The comparing functions of the laws: what is read is compared as plain data.
-/
import Derived.Test.YtcfhjmflnochcaaApp
set_option linter.unusedVariables false
set_option linter.unusedSimpArgs false
namespace Go.Proofs.Ytcfhjmflnochcaa
open Go.RowKit
variable {p q : Prop}

theorem take_succ_eq {α : Type} {xs ys : List α} {k : Nat} (h : xs.take k = ys.take k) (h1 : k < xs.length) (h2 : k < ys.length) (e : xs[k] = ys[k]) : xs.take (k + 1) = ys.take (k + 1) := by
  rw [List.take_succ_eq_append_getElem h1, List.take_succ_eq_append_getElem h2, h, e]

theorem take_succ_map {α β : Type} {f : α → β} {xs ys : List α} {k : Nat} (h : (xs.take k).map f = (ys.take k).map f) (h1 : k < xs.length) (h2 : k < ys.length) (e : f xs[k] = f ys[k]) : (xs.take (k + 1)).map f = (ys.take (k + 1)).map f := by
  rw [List.take_succ_eq_append_getElem h1, List.take_succ_eq_append_getElem h2, List.map_append, List.map_append, h]; simp [e]
theorem ne_of_get {α β : Type} [DecidableEq β] {f : α → β} {xs ys : List α} {k : Nat} {h1 : k < xs.length} {h2 : k < ys.length} (he : ¬ f xs[k] = f ys[k]) : Ending.returned (.bool false) = .returned (.bool (decide (xs.map f = ys.map f))) := by
  rw [decide_eq_false]
  intro h
  apply he
  have := congrArg (fun l => l[k]?) h
  simpa [h1, h2] using this
theorem ne_of_len {α β : Type} [DecidableEq β] {f : α → β} {xs ys : List α} (hl : ¬ xs.length = ys.length) : Ending.returned (.bool false) = .returned (.bool (decide (xs.map f = ys.map f))) := by
  rw [decide_eq_false]
  intro h
  exact hl (by simpa using congrArg List.length h)

theorem ret_ne {p : Prop} [Decidable p] (h : ¬ p) : Ending.returned (.bool false) = .returned (.bool (decide p)) := by rw [decide_eq_false h]
theorem ret_eq {p : Prop} [Decidable p] (h : p) : Ending.returned (.bool true) = .returned (.bool (decide p)) := by rw [decide_eq_true h]

theorem eqByteS_any (w : World) (A B : Option Addr) (c1 c2 : Nat) (xs ys : List Int) (lx : xs.length ≤ 1099511627776) (ly : ys.length ≤ 1099511627776)
    (hx : BytesR p w A xs) (hy : BytesR q w B ys) :
    Calls Try.prog 54 #[.slice A xs.length c1, .slice B ys.length c2] w fun e w' => e = .returned (.bool (decide (xs = ys))) ∧ Below w.heap.size w w' := by
  by_cases hl : xs.length = ys.length
  · have hb : ((xs.length : Int) != ys.length) = false := by simp [hl]
    go_enter Try.func54, Try.ntmps54
    go_wp2_with fail
    go_loopw [5] (fun i wr => ∃ k : Nat, k ≤ xs.length ∧ i = .int .i64 k ∧ Below w.heap.size w wr ∧ xs.take k = ys.take k) (fun i _ => xs.length - (intOf i).toNat)
    case atStart => exact ⟨0, by omega, rfl, Below.refl _ _, by simp⟩
    case round =>
      obtain ⟨k, hk, rfl, hb, hp⟩ := hrel
      have H : Hid _ := hp
      have HL : Hid _ := hl
      have hlt2 : k < xs.length → k < ys.length := fun h => by omega
      have hge2 : xs.length ≤ k → ys.length ≤ k := fun h => by omega
      clear hp hl
      by_cases hlt : k < xs.length
      · have hlt2 := hlt2 hlt
        obtain ⟨g, o, rfl, hg, ⟨c0⟩⟩ := byteAt (hx.below hb) k hlt
        obtain ⟨g', o', rfl, hg', ⟨d0⟩⟩ := byteAt (hy.below hb) k hlt2
        clear hx hy
        by_cases he : xs[k] = ys[k]
        · have hq : (xs[k] != ys[k]) = false := by simp [he]
          have HE : Hid _ := he
          clear he
          go_wp2_with fail
          go_quiet (fail)
          go_wp2_with fail
          go_roundw
          case rel => exact ⟨k + 1, by omega, by go_num, bl_drewN hb _, take_succ_eq H.out hlt hlt2 HE.out⟩
          case measure => simp [intOf]; omega
        · have hq : (xs[k] != ys[k]) = true := by simp [he]
          go_wp2_with fail
          go_quiet (fail)
          go_wp2_with fail
          go_ret
          exact ⟨by simp; intro h; subst h; exact he rfl, bl_drewN hb _⟩
      · have hge2 := hge2 (by omega)
        go_wp2_with fail
        go_ret
        refine ⟨?_, hb⟩
        have e1 : k = xs.length := by omega
        have := H.out
        rw [List.take_of_length_le (by omega), List.take_of_length_le (by omega)] at this
        simp [this]
  · have hb : ((xs.length : Int) != ys.length) = true := by simp; omega
    go_enter Try.func54, Try.ntmps54
    go_wp2_with fail
    go_ret
    exact ⟨by simp; intro h; exact hl (by rw [h]), Below.refl _ _⟩

theorem eqFrame_any (w : World) (f g : LFrame) (lx : f.data.length ≤ 1099511627776) (ly : g.data.length ≤ 1099511627776) (hf : FrameR p w f) (hg : FrameR q w g) :
    Calls Try.prog 17 #[.agg #[.bool f.ext, .int .u32 f.id, .bool f.rtr, .int .i64 f.dlc, .slice f.A f.data.length f.cap], .agg #[.bool g.ext, .int .u32 g.id, .bool g.rtr, .int .i64 g.dlc, .slice g.A g.data.length g.cap]] w
      fun e w' => e = .returned (.bool (decide (f.d = g.d))) ∧ Below w.heap.size w w' := by
  go_enter Try.func17, Try.ntmps17
  have hf1 := fun W (h : Below w.heap.size w W) => hf.below h
  have hg1 := fun W (h : Below w.heap.size w W) => hg.below h
  clear hf hg
  go_wp2_with (go_at_call 54; refine (eqByteS_any _ _ _ _ _ _ _ lx ly (hf1 _ (by repeat first | apply bl_alloc | exact Below.refl _ _)) (hg1 _ (by repeat first | apply bl_alloc | exact Below.refl _ _))).mono ?_; rintro e w' ⟨rfl, hb⟩)
  all_goals (go_ret; refine ⟨?_, by first | (refine bl_then ?_ hb; repeat first | apply bl_alloc | exact Below.refl _ _) | (repeat first | apply bl_alloc | exact Below.refl _ _)⟩)
  all_goals simp_all [LFrame.d]

theorem eqFilter_any (w : World) (f g : DFilter) :
    Calls Try.prog 83 #[.agg #[.bool f.ext, .int .u32 f.mask, .int .u32 f.mtch], .agg #[.bool g.ext, .int .u32 g.mask, .int .u32 g.mtch]] w
      fun e w' => e = .returned (.bool (decide (f = g))) ∧ Below w.heap.size w w' := by
  go_enter Try.func83, Try.ntmps83
  go_wp2_with fail
  all_goals (go_ret; refine ⟨?_, by repeat first | apply bl_alloc | exact Below.refl _ _⟩)
  all_goals cases f <;> cases g <;> simp_all


theorem eqBox_any (w : World) (f g : LBox) (lx : f.f.data.length ≤ 1099511627776) (ly : g.f.data.length ≤ 1099511627776) (hf : FrameR p w f.f) (hg : FrameR q w g.f) :
    Calls Try.prog 84 #[.agg #[.int .i64 f.state, .int .i64 f.tag, .int .i64 f.stamp, .bool f.f.ext, .int .u32 f.f.id, .bool f.f.rtr, .int .i64 f.f.dlc, .slice f.f.A f.f.data.length f.f.cap], .agg #[.int .i64 g.state, .int .i64 g.tag, .int .i64 g.stamp, .bool g.f.ext, .int .u32 g.f.id, .bool g.f.rtr, .int .i64 g.f.dlc, .slice g.f.A g.f.data.length g.f.cap]] w
      fun e w' => e = .returned (.bool (decide (f.d = g.d))) ∧ Below w.heap.size w w' := by
  have hf1 := fun W (h : Below w.heap.size w W) => hf.below h
  have hg1 := fun W (h : Below w.heap.size w W) => hg.below h
  clear hf hg
  go_enter Try.func84, Try.ntmps84
  go_wp2_with (go_at_call 17; refine (eqFrame_any _ f.f g.f lx ly (hf1 _ (by repeat first | with_reducible exact Below.refl _ _ | with_reducible assumption | with_reducible refine bl_alloc ?_ _ | with_reducible refine bl_drewN ?_ _ | with_reducible refine Below.drew ?_ | (refine bl_set ?_ (by simp <;> omega) _))) (hg1 _ (by repeat first | with_reducible exact Below.refl _ _ | with_reducible assumption | with_reducible refine bl_alloc ?_ _ | with_reducible refine bl_drewN ?_ _ | with_reducible refine Below.drew ?_ | (refine bl_set ?_ (by simp <;> omega) _)))).mono ?_; rintro e w' ⟨rfl, hb⟩)
  all_goals (go_ret; refine ⟨?_, by first | (refine bl_then ?_ hb; exact (by repeat first | with_reducible exact Below.refl _ _ | with_reducible assumption | with_reducible refine bl_alloc ?_ _ | with_reducible refine bl_drewN ?_ _ | with_reducible refine Below.drew ?_ | (refine bl_set ?_ (by simp <;> omega) _))) | exact (by repeat first | with_reducible exact Below.refl _ _ | with_reducible assumption | with_reducible refine bl_alloc ?_ _ | with_reducible refine bl_drewN ?_ _ | with_reducible refine Below.drew ?_ | (refine bl_set ?_ (by simp <;> omega) _))⟩)
  all_goals simp_all [LBox.d]

theorem eqEvent_any (w : World) (f g : LEvent) (lx : f.f.data.length ≤ 1099511627776) (ly : g.f.data.length ≤ 1099511627776) (hf : FrameR p w f.f) (hg : FrameR q w g.f) :
    Calls Try.prog 85 #[.agg #[.int .i64 f.kind, .int .i64 f.a, .int .i64 f.b, .bool f.f.ext, .int .u32 f.f.id, .bool f.f.rtr, .int .i64 f.f.dlc, .slice f.f.A f.f.data.length f.f.cap], .agg #[.int .i64 g.kind, .int .i64 g.a, .int .i64 g.b, .bool g.f.ext, .int .u32 g.f.id, .bool g.f.rtr, .int .i64 g.f.dlc, .slice g.f.A g.f.data.length g.f.cap]] w
      fun e w' => e = .returned (.bool (decide (f.d = g.d))) ∧ Below w.heap.size w w' := by
  have hf1 := fun W (h : Below w.heap.size w W) => hf.below h
  have hg1 := fun W (h : Below w.heap.size w W) => hg.below h
  clear hf hg
  go_enter Try.func85, Try.ntmps85
  go_wp2_with (go_at_call 17; refine (eqFrame_any _ f.f g.f lx ly (hf1 _ (by repeat first | with_reducible exact Below.refl _ _ | with_reducible assumption | with_reducible refine bl_alloc ?_ _ | with_reducible refine bl_drewN ?_ _ | with_reducible refine Below.drew ?_ | (refine bl_set ?_ (by simp <;> omega) _))) (hg1 _ (by repeat first | with_reducible exact Below.refl _ _ | with_reducible assumption | with_reducible refine bl_alloc ?_ _ | with_reducible refine bl_drewN ?_ _ | with_reducible refine Below.drew ?_ | (refine bl_set ?_ (by simp <;> omega) _)))).mono ?_; rintro e w' ⟨rfl, hb⟩)
  all_goals (go_ret; refine ⟨?_, by first | (refine bl_then ?_ hb; exact (by repeat first | with_reducible exact Below.refl _ _ | with_reducible assumption | with_reducible refine bl_alloc ?_ _ | with_reducible refine bl_drewN ?_ _ | with_reducible refine Below.drew ?_ | (refine bl_set ?_ (by simp <;> omega) _))) | exact (by repeat first | with_reducible exact Below.refl _ _ | with_reducible assumption | with_reducible refine bl_alloc ?_ _ | with_reducible refine bl_drewN ?_ _ | with_reducible refine Below.drew ?_ | (refine bl_set ?_ (by simp <;> omega) _))⟩)
  all_goals simp_all [LEvent.d]

theorem eqConfig_any (w : World) (f g : DConfig) :
    Calls Try.prog 37 #[.agg #[.int .i64 f.boxes, .int .i64 f.fifo, .int .i64 f.policy, .int .i64 f.events], .agg #[.int .i64 g.boxes, .int .i64 g.fifo, .int .i64 g.policy, .int .i64 g.events]] w
      fun e w' => e = .returned (.bool (decide (f = g))) ∧ Below w.heap.size w w' := by
  go_enter Try.func37, Try.ntmps37
  go_wp2_with fail
  all_goals (go_ret; refine ⟨?_, (by repeat first | with_reducible exact Below.refl _ _ | with_reducible assumption | with_reducible refine bl_alloc ?_ _ | with_reducible refine bl_drewN ?_ _ | with_reducible refine Below.drew ?_ | (refine bl_set ?_ (by simp <;> omega) _))⟩)
  all_goals cases f <;> cases g <;> simp_all

set_option maxRecDepth 100000 in
theorem eqFilterS_any (w : World) (A B : Option Addr) (c1 c2 : Nat) (e1 e2 : TypeId) (xs ys : List DFilter) (lx : xs.length ≤ 1099511627776) (ly : ys.length ≤ 1099511627776) (hx : Cells p w e1 A (xs.flatMap DFilter.cs)) (hy : Cells q w e2 B (ys.flatMap DFilter.cs)) :
    Calls Try.prog 38 #[.slice A xs.length c1, .slice B ys.length c2] w fun e w' => e = .returned (.bool (decide (xs = ys))) ∧ Below w.heap.size w w' := by
  by_cases hl : xs.length = ys.length
  · have hb : ((xs.length : Int) != ys.length) = false := by simp [hl]
    go_enter Try.func38, Try.ntmps38
    go_wp2_with fail
    go_loopw [5] (fun i wr => ∃ k : Nat, k ≤ xs.length ∧ i = .int .i64 k ∧ Below w.heap.size w wr ∧ (xs.take k) = (ys.take k)) (fun i _ => xs.length - (intOf i).toNat)
    case atStart => exact ⟨0, by omega, rfl, Below.refl _ _, by simp⟩
    case round =>
      obtain ⟨k, hk, rfl, hb, hp⟩ := hrel
      have H : Hid _ := hp
      have HL : Hid _ := hl
      have hlt2 : k < xs.length → k < ys.length := fun h => by omega
      have hge2 : xs.length ≤ k → ys.length ≤ k := fun h => by omega
      clear hp hl
      by_cases hlt : k < xs.length
      · have hlt2 := hlt2 hlt
        obtain ⟨g, o, rfl, hg, ⟨c0, c1, c2⟩⟩ := filterAt (hx.below hb) k hlt
        obtain ⟨g', o', rfl, hg', ⟨d0, d1, d2⟩⟩ := filterAt (hy.below hb) k hlt2
        clear hx hy
        go_wp2_with fail
        go_still_tail 8, (by kernel_rfl)
        go_wp2_with fail
        refine (eqFilter_any _ xs[k] ys[k]).mono ?_; rintro e w2 ⟨rfl, hb2⟩
        have hB : Below w.heap.size w w2 := bl_then (Below.drew hb) hb2
        clear hb hb2
        by_cases he : xs[k] = ys[k]
        · have hq : (!decide (xs[k] = ys[k])) = false := by simp [he]
          have hq2 : decide (xs[k] = ys[k]) = true := by simp [he]
          have HE : Hid _ := he
          clear he
          go_wp2_with fail
          go_roundw
          case rel => exact ⟨k + 1, by omega, by go_num, hB, take_succ_eq H.out hlt hlt2 HE.out⟩
          case measure => simp [intOf]; omega
        · have hq : (!decide (xs[k] = ys[k])) = true := by simp [he]
          have hq2 : decide (xs[k] = ys[k]) = false := by simp [he]
          go_wp2_with fail
          go_ret
          exact ⟨by simp; intro h; subst h; exact he rfl, hB⟩
      · have hge2 := hge2 (by omega)
        go_wp2_with fail
        go_ret
        refine ⟨?_, hb⟩
        have e1 : k = xs.length := by omega
        have := H.out
        rw [List.take_of_length_le (by omega), List.take_of_length_le (by omega)] at this
        simp [this]
  · have hb : ((xs.length : Int) != ys.length) = true := by simp; omega
    go_enter Try.func38, Try.ntmps38
    go_wp2_with fail
    go_ret
    exact ⟨by simp; intro h; exact hl (by rw [h]), Below.refl _ _⟩

set_option maxRecDepth 100000 in
theorem eqFrameS_any (w : World) (A B : Option Addr) (c1 c2 : Nat) (e1 e2 : TypeId) (xs ys : List LFrame) (lx : xs.length ≤ 1099511627776) (ly : ys.length ≤ 1099511627776) (hx : FramesR p w e1 A xs) (hy : FramesR q w e2 B ys) (lxd : ∀ x ∈ xs, x.data.length ≤ 1099511627776) (lyd : ∀ x ∈ ys, x.data.length ≤ 1099511627776) :
    Calls Try.prog 40 #[.slice A xs.length c1, .slice B ys.length c2] w fun e w' => e = .returned (.bool (decide (xs.map LFrame.d = ys.map LFrame.d))) ∧ Below w.heap.size w w' := by
  by_cases hl : xs.length = ys.length
  · have hb : ((xs.length : Int) != ys.length) = false := by simp [hl]
    go_enter Try.func40, Try.ntmps40
    go_wp2_with fail
    go_loopw [5] (fun i wr => ∃ k : Nat, k ≤ xs.length ∧ i = .int .i64 k ∧ Below w.heap.size w wr ∧ (xs.take k).map LFrame.d = (ys.take k).map LFrame.d) (fun i _ => xs.length - (intOf i).toNat)
    case atStart => exact ⟨0, by omega, rfl, Below.refl _ _, by simp⟩
    case round =>
      obtain ⟨k, hk, rfl, hb, hp⟩ := hrel
      have H : Hid _ := hp
      have HL : Hid _ := hl
      have hlt2 : k < xs.length → k < ys.length := fun h => by omega
      have hge2 : xs.length ≤ k → ys.length ≤ k := fun h => by omega
      clear hp hl
      by_cases hlt : k < xs.length
      · have hlt2 := hlt2 hlt
        obtain ⟨g, o, rfl, hg, ⟨c0, c1, c2, c3, c4⟩⟩ := frameAt (hx.below hb).1 k hlt
        obtain ⟨g', o', rfl, hg', ⟨d0, d1, d2, d3, d4⟩⟩ := frameAt (hy.below hb).1 k hlt2
        have hfk : FrameR p wr xs[k] := (hx.below hb).2 _ (List.getElem_mem hlt)
        have hgk : FrameR q wr ys[k] := (hy.below hb).2 _ (List.getElem_mem hlt2)
        have hlk := lxd _ (List.getElem_mem hlt)
        have hmk := lyd _ (List.getElem_mem hlt2)
        clear lxd lyd
        clear hx hy
        go_wp2_with fail
        go_still_tail 8, (by kernel_rfl)
        go_wp2_with fail
        refine (eqFrame_any _ xs[k] ys[k] hlk hmk hfk.drew hgk.drew).mono ?_; rintro e w2 ⟨rfl, hb2⟩
        have hB : Below w.heap.size w w2 := bl_then (Below.drew hb) hb2
        clear hb hb2
        by_cases he : xs[k].d = ys[k].d
        · have hq : (!decide (xs[k].d = ys[k].d)) = false := by simp [he]
          have hq2 : decide (xs[k].d = ys[k].d) = true := by simp [he]
          have HE : Hid _ := he
          clear he
          go_wp2_with fail
          go_roundw
          case rel => exact ⟨k + 1, by omega, by go_num, hB, take_succ_map H.out hlt hlt2 HE.out⟩
          case measure => simp [intOf]; omega
        · have hq : (!decide (xs[k].d = ys[k].d)) = true := by simp [he]
          have hq2 : decide (xs[k].d = ys[k].d) = false := by simp [he]
          go_wp2_with fail
          go_ret
          exact ⟨ne_of_get (f := LFrame.d) he, hB⟩
      · have hge2 := hge2 (by omega)
        go_wp2_with fail
        go_ret
        refine ⟨?_, hb⟩
        have e1 : k = xs.length := by omega
        have := H.out
        rw [List.take_of_length_le (by omega), List.take_of_length_le (by omega)] at this
        simp [this]
  · have hb : ((xs.length : Int) != ys.length) = true := by simp; omega
    go_enter Try.func40, Try.ntmps40
    go_wp2_with fail
    go_ret
    exact ⟨ne_of_len (f := LFrame.d) hl, Below.refl _ _⟩

set_option maxRecDepth 100000 in
theorem eqBoxS_any (w : World) (A B : Option Addr) (c1 c2 : Nat) (e1 e2 : TypeId) (xs ys : List LBox) (lx : xs.length ≤ 1099511627776) (ly : ys.length ≤ 1099511627776) (hx : BoxesR p w e1 A xs) (hy : BoxesR q w e2 B ys) (lxd : ∀ x ∈ xs, x.f.data.length ≤ 1099511627776) (lyd : ∀ x ∈ ys, x.f.data.length ≤ 1099511627776) :
    Calls Try.prog 39 #[.slice A xs.length c1, .slice B ys.length c2] w fun e w' => e = .returned (.bool (decide (xs.map LBox.d = ys.map LBox.d))) ∧ Below w.heap.size w w' := by
  by_cases hl : xs.length = ys.length
  · have hb : ((xs.length : Int) != ys.length) = false := by simp [hl]
    go_enter Try.func39, Try.ntmps39
    go_wp2_with fail
    go_loopw [5] (fun i wr => ∃ k : Nat, k ≤ xs.length ∧ i = .int .i64 k ∧ Below w.heap.size w wr ∧ (xs.take k).map LBox.d = (ys.take k).map LBox.d) (fun i _ => xs.length - (intOf i).toNat)
    case atStart => exact ⟨0, by omega, rfl, Below.refl _ _, by simp⟩
    case round =>
      obtain ⟨k, hk, rfl, hb, hp⟩ := hrel
      have H : Hid _ := hp
      have HL : Hid _ := hl
      have hlt2 : k < xs.length → k < ys.length := fun h => by omega
      have hge2 : xs.length ≤ k → ys.length ≤ k := fun h => by omega
      clear hp hl
      by_cases hlt : k < xs.length
      · have hlt2 := hlt2 hlt
        obtain ⟨g, o, rfl, hg, ⟨c0, c1, c2, c3, c4, c5, c6, c7⟩⟩ := boxAt (hx.below hb).1 k hlt
        obtain ⟨g', o', rfl, hg', ⟨d0, d1, d2, d3, d4, d5, d6, d7⟩⟩ := boxAt (hy.below hb).1 k hlt2
        have hfk : FrameR p wr xs[k].f := (hx.below hb).2 _ (List.getElem_mem hlt)
        have hgk : FrameR q wr ys[k].f := (hy.below hb).2 _ (List.getElem_mem hlt2)
        have hlk := lxd _ (List.getElem_mem hlt)
        have hmk := lyd _ (List.getElem_mem hlt2)
        clear lxd lyd
        clear hx hy
        go_wp2_with fail
        go_still_tail 8, (by kernel_rfl)
        go_wp2_with fail
        refine (eqBox_any _ xs[k] ys[k] hlk hmk hfk.drew hgk.drew).mono ?_; rintro e w2 ⟨rfl, hb2⟩
        have hB : Below w.heap.size w w2 := bl_then (Below.drew hb) hb2
        clear hb hb2
        by_cases he : xs[k].d = ys[k].d
        · have hq : (!decide (xs[k].d = ys[k].d)) = false := by simp [he]
          have hq2 : decide (xs[k].d = ys[k].d) = true := by simp [he]
          have HE : Hid _ := he
          clear he
          go_wp2_with fail
          go_roundw
          case rel => exact ⟨k + 1, by omega, by go_num, hB, take_succ_map H.out hlt hlt2 HE.out⟩
          case measure => simp [intOf]; omega
        · have hq : (!decide (xs[k].d = ys[k].d)) = true := by simp [he]
          have hq2 : decide (xs[k].d = ys[k].d) = false := by simp [he]
          go_wp2_with fail
          go_ret
          exact ⟨ne_of_get (f := LBox.d) he, hB⟩
      · have hge2 := hge2 (by omega)
        go_wp2_with fail
        go_ret
        refine ⟨?_, hb⟩
        have e1 : k = xs.length := by omega
        have := H.out
        rw [List.take_of_length_le (by omega), List.take_of_length_le (by omega)] at this
        simp [this]
  · have hb : ((xs.length : Int) != ys.length) = true := by simp; omega
    go_enter Try.func39, Try.ntmps39
    go_wp2_with fail
    go_ret
    exact ⟨ne_of_len (f := LBox.d) hl, Below.refl _ _⟩

set_option maxRecDepth 100000 in
theorem eqEventS_any (w : World) (A B : Option Addr) (c1 c2 : Nat) (e1 e2 : TypeId) (xs ys : List LEvent) (lx : xs.length ≤ 1099511627776) (ly : ys.length ≤ 1099511627776) (hx : EventsR p w e1 A xs) (hy : EventsR q w e2 B ys) (lxd : ∀ x ∈ xs, x.f.data.length ≤ 1099511627776) (lyd : ∀ x ∈ ys, x.f.data.length ≤ 1099511627776) :
    Calls Try.prog 41 #[.slice A xs.length c1, .slice B ys.length c2] w fun e w' => e = .returned (.bool (decide (xs.map LEvent.d = ys.map LEvent.d))) ∧ Below w.heap.size w w' := by
  by_cases hl : xs.length = ys.length
  · have hb : ((xs.length : Int) != ys.length) = false := by simp [hl]
    go_enter Try.func41, Try.ntmps41
    go_wp2_with fail
    go_loopw [5] (fun i wr => ∃ k : Nat, k ≤ xs.length ∧ i = .int .i64 k ∧ Below w.heap.size w wr ∧ (xs.take k).map LEvent.d = (ys.take k).map LEvent.d) (fun i _ => xs.length - (intOf i).toNat)
    case atStart => exact ⟨0, by omega, rfl, Below.refl _ _, by simp⟩
    case round =>
      obtain ⟨k, hk, rfl, hb, hp⟩ := hrel
      have H : Hid _ := hp
      have HL : Hid _ := hl
      have hlt2 : k < xs.length → k < ys.length := fun h => by omega
      have hge2 : xs.length ≤ k → ys.length ≤ k := fun h => by omega
      clear hp hl
      by_cases hlt : k < xs.length
      · have hlt2 := hlt2 hlt
        obtain ⟨g, o, rfl, hg, ⟨c0, c1, c2, c3, c4, c5, c6, c7⟩⟩ := eventAt (hx.below hb).1 k hlt
        obtain ⟨g', o', rfl, hg', ⟨d0, d1, d2, d3, d4, d5, d6, d7⟩⟩ := eventAt (hy.below hb).1 k hlt2
        have hfk : FrameR p wr xs[k].f := (hx.below hb).2 _ (List.getElem_mem hlt)
        have hgk : FrameR q wr ys[k].f := (hy.below hb).2 _ (List.getElem_mem hlt2)
        have hlk := lxd _ (List.getElem_mem hlt)
        have hmk := lyd _ (List.getElem_mem hlt2)
        clear lxd lyd
        clear hx hy
        go_wp2_with fail
        go_still_tail 8, (by kernel_rfl)
        go_wp2_with fail
        refine (eqEvent_any _ xs[k] ys[k] hlk hmk hfk.drew hgk.drew).mono ?_; rintro e w2 ⟨rfl, hb2⟩
        have hB : Below w.heap.size w w2 := bl_then (Below.drew hb) hb2
        clear hb hb2
        by_cases he : xs[k].d = ys[k].d
        · have hq : (!decide (xs[k].d = ys[k].d)) = false := by simp [he]
          have hq2 : decide (xs[k].d = ys[k].d) = true := by simp [he]
          have HE : Hid _ := he
          clear he
          go_wp2_with fail
          go_roundw
          case rel => exact ⟨k + 1, by omega, by go_num, hB, take_succ_map H.out hlt hlt2 HE.out⟩
          case measure => simp [intOf]; omega
        · have hq : (!decide (xs[k].d = ys[k].d)) = true := by simp [he]
          have hq2 : decide (xs[k].d = ys[k].d) = false := by simp [he]
          go_wp2_with fail
          go_ret
          exact ⟨ne_of_get (f := LEvent.d) he, hB⟩
      · have hge2 := hge2 (by omega)
        go_wp2_with fail
        go_ret
        refine ⟨?_, hb⟩
        have e1 : k = xs.length := by omega
        have := H.out
        rw [List.take_of_length_le (by omega), List.take_of_length_le (by omega)] at this
        simp [this]
  · have hb : ((xs.length : Int) != ys.length) = true := by simp; omega
    go_enter Try.func41, Try.ntmps41
    go_wp2_with fail
    go_ret
    exact ⟨ne_of_len (f := LEvent.d) hl, Below.refl _ _⟩

theorem eqHost_any (w : World) (f g : LHost) (zf : HostSz f) (zg : HostSz g) (a1 a2 a3 a4 b1 b2 b3 b4 : TypeId) (hf : HostR p a1 a2 a3 a4 w f) (hg : HostR q b1 b2 b3 b4 w g) :
    Calls Try.prog 10 #[.agg #[.int .i64 f.cfg.boxes, .int .i64 f.cfg.fifo, .int .i64 f.cfg.policy, .int .i64 f.cfg.events, .slice f.fA f.filters.length f.fc, .slice f.bA f.boxes.length f.bc, .slice f.qA f.fifo.length f.qc, .slice f.eA f.queue.length f.ec, .int .i64 f.lost, .int .i64 f.stamp], .agg #[.int .i64 g.cfg.boxes, .int .i64 g.cfg.fifo, .int .i64 g.cfg.policy, .int .i64 g.cfg.events, .slice g.fA g.filters.length g.fc, .slice g.bA g.boxes.length g.bc, .slice g.qA g.fifo.length g.qc, .slice g.eA g.queue.length g.ec, .int .i64 g.lost, .int .i64 g.stamp]] w
      fun e w' => e = .returned (.bool (decide (f.d = g.d))) ∧ Below w.heap.size w w' := by
  have hf1 := fun W (h : Below w.heap.size w W) => hf.below h
  have hg1 := fun W (h : Below w.heap.size w W) => hg.below h
  clear hf hg
  go_enter Try.func10, Try.ntmps10
  go_wp2_with fail
  have hB : Below w.heap.size w ((w.alloc (.cells #[.int .i64 f.cfg.boxes, .int .i64 f.cfg.fifo, .int .i64 f.cfg.policy, .int .i64 f.cfg.events, .slice f.fA f.filters.length f.fc, .slice f.bA f.boxes.length f.bc, .slice f.qA f.fifo.length f.qc, .slice f.eA f.queue.length f.ec, .int .i64 f.lost, .int .i64 f.stamp] 37)).alloc (.cells #[.int .i64 g.cfg.boxes, .int .i64 g.cfg.fifo, .int .i64 g.cfg.policy, .int .i64 g.cfg.events, .slice g.fA g.filters.length g.fc, .slice g.bA g.boxes.length g.bc, .slice g.qA g.fifo.length g.qc, .slice g.eA g.queue.length g.ec, .int .i64 g.lost, .int .i64 g.stamp] 37)) := (by repeat first | with_reducible exact Below.refl _ _ | with_reducible assumption | with_reducible refine bl_alloc ?_ _ | with_reducible refine bl_drewN ?_ _ | with_reducible refine Below.drew ?_ | (refine bl_set ?_ (by simp <;> omega) _))
  refine (eqConfig_any _ f.cfg g.cfg).mono ?_; rintro e w1 ⟨rfl, hb⟩
  have hh0 := heap_below hb (heap_old _ (heap_new (W := w) _ _ rfl))
  have hh1 := heap_below hb (heap_new (W := w.alloc _) _ (w.heap.size + 1) (by simp))
  replace hB : Below w.heap.size w w1 := bl_then hB hb
  obtain ⟨c00, c01, c02, c03, c04, c05, c06, c07, c08, c09, cf0⟩ := ten hh0
  obtain ⟨d00, d01, d02, d03, d04, d05, d06, d07, d08, d09, df0⟩ := ten hh1
  have KH0 : Hid _ := hh0
  have KH1 : Hid _ := hh1
  clear hh0 hh1 hb
  by_cases q0 : f.cfg = g.cfg
  case neg =>
    have hq : (!decide (f.cfg = g.cfg)) = true := by simp [q0]
    have hq2 : decide (f.cfg = g.cfg) = false := by simp [q0]
    clear hf1 hg1
    go_wp2_with fail
    go_ret
    exact ⟨ret_ne (fun h => q0 (by simpa [LHost.d] using congrArg DHost.cfg h)), hB⟩
  have hq : (!decide (f.cfg = g.cfg)) = false := by simp [q0]
  have hq2 : decide (f.cfg = g.cfg) = true := by simp [q0]
  have Q0 : Hid _ := q0
  clear q0
  go_wp2_with fail
  clear hq hq2 c00 c01 c02 c03 c04 c05 c06 c07 c08 c09 cf0 d00 d01 d02 d03 d04 d05 d06 d07 d08 d09 df0
  refine (eqFilterS_any _ _ _ _ _ _ _ _ _ (by have := zf.f; omega) (by have := zg.f; omega) (hf1 _ hB).f (hg1 _ hB).f).mono ?_; rintro e w2 ⟨rfl, hb⟩
  have hh0 := heap_below hb KH0.out
  have hh1 := heap_below hb KH1.out
  clear KH0 KH1
  replace hB : Below w.heap.size w w2 := bl_then hB hb
  obtain ⟨c00, c01, c02, c03, c04, c05, c06, c07, c08, c09, cf0⟩ := ten hh0
  obtain ⟨d00, d01, d02, d03, d04, d05, d06, d07, d08, d09, df0⟩ := ten hh1
  have KH0 : Hid _ := hh0
  have KH1 : Hid _ := hh1
  clear hh0 hh1 hb
  by_cases q1 : f.filters = g.filters
  case neg =>
    have hq : (!decide (f.filters = g.filters)) = true := by simp [q1]
    have hq2 : decide (f.filters = g.filters) = false := by simp [q1]
    clear hf1 hg1
    go_wp2_with fail
    go_ret
    exact ⟨ret_ne (fun h => q1 (by simpa [LHost.d] using congrArg DHost.filters h)), hB⟩
  have hq : (!decide (f.filters = g.filters)) = false := by simp [q1]
  have hq2 : decide (f.filters = g.filters) = true := by simp [q1]
  have Q1 : Hid _ := q1
  clear q1
  go_wp2_with fail
  clear hq hq2 c00 c01 c02 c03 c04 c05 c06 c07 c08 c09 cf0 d00 d01 d02 d03 d04 d05 d06 d07 d08 d09 df0
  refine (eqBoxS_any _ _ _ _ _ _ _ _ _ (by have := zf.b; omega) (by have := zg.b; omega) (hf1 _ hB).b (hg1 _ hB).b (fun x hx => by have := zf.bd x hx; omega) (fun x hx => by have := zg.bd x hx; omega)).mono ?_; rintro e w3 ⟨rfl, hb⟩
  have hh0 := heap_below hb KH0.out
  have hh1 := heap_below hb KH1.out
  clear KH0 KH1
  replace hB : Below w.heap.size w w3 := bl_then hB hb
  obtain ⟨c00, c01, c02, c03, c04, c05, c06, c07, c08, c09, cf0⟩ := ten hh0
  obtain ⟨d00, d01, d02, d03, d04, d05, d06, d07, d08, d09, df0⟩ := ten hh1
  have KH0 : Hid _ := hh0
  have KH1 : Hid _ := hh1
  clear hh0 hh1 hb
  by_cases q2 : f.boxes.map LBox.d = g.boxes.map LBox.d
  case neg =>
    have hq : (!decide (f.boxes.map LBox.d = g.boxes.map LBox.d)) = true := by simp [q2]
    have hq2 : decide (f.boxes.map LBox.d = g.boxes.map LBox.d) = false := by simp [q2]
    clear hf1 hg1
    go_wp2_with fail
    go_ret
    exact ⟨ret_ne (fun h => q2 (by simpa [LHost.d] using congrArg DHost.boxes h)), hB⟩
  have hq : (!decide (f.boxes.map LBox.d = g.boxes.map LBox.d)) = false := by simp [q2]
  have hq2 : decide (f.boxes.map LBox.d = g.boxes.map LBox.d) = true := by simp [q2]
  have Q2 : Hid _ := q2
  clear q2
  go_wp2_with fail
  clear hq hq2 c00 c01 c02 c03 c04 c05 c06 c07 c08 c09 cf0 d00 d01 d02 d03 d04 d05 d06 d07 d08 d09 df0
  refine (eqFrameS_any _ _ _ _ _ _ _ _ _ (by have := zf.q; omega) (by have := zg.q; omega) (hf1 _ hB).q (hg1 _ hB).q (fun x hx => by have := zf.qd x hx; omega) (fun x hx => by have := zg.qd x hx; omega)).mono ?_; rintro e w4 ⟨rfl, hb⟩
  have hh0 := heap_below hb KH0.out
  have hh1 := heap_below hb KH1.out
  clear KH0 KH1
  replace hB : Below w.heap.size w w4 := bl_then hB hb
  obtain ⟨c00, c01, c02, c03, c04, c05, c06, c07, c08, c09, cf0⟩ := ten hh0
  obtain ⟨d00, d01, d02, d03, d04, d05, d06, d07, d08, d09, df0⟩ := ten hh1
  have KH0 : Hid _ := hh0
  have KH1 : Hid _ := hh1
  clear hh0 hh1 hb
  by_cases q3 : f.fifo.map LFrame.d = g.fifo.map LFrame.d
  case neg =>
    have hq : (!decide (f.fifo.map LFrame.d = g.fifo.map LFrame.d)) = true := by simp [q3]
    have hq2 : decide (f.fifo.map LFrame.d = g.fifo.map LFrame.d) = false := by simp [q3]
    clear hf1 hg1
    go_wp2_with fail
    go_ret
    exact ⟨ret_ne (fun h => q3 (by simpa [LHost.d] using congrArg DHost.fifo h)), hB⟩
  have hq : (!decide (f.fifo.map LFrame.d = g.fifo.map LFrame.d)) = false := by simp [q3]
  have hq2 : decide (f.fifo.map LFrame.d = g.fifo.map LFrame.d) = true := by simp [q3]
  have Q3 : Hid _ := q3
  clear q3
  go_wp2_with fail
  clear hq hq2 c00 c01 c02 c03 c04 c05 c06 c07 c08 c09 cf0 d00 d01 d02 d03 d04 d05 d06 d07 d08 d09 df0
  refine (eqEventS_any _ _ _ _ _ _ _ _ _ (by have := zf.e; omega) (by have := zg.e; omega) (hf1 _ hB).e (hg1 _ hB).e (fun x hx => by have := zf.ed x hx; omega) (fun x hx => by have := zg.ed x hx; omega)).mono ?_; rintro e w5 ⟨rfl, hb⟩
  have hh0 := heap_below hb KH0.out
  have hh1 := heap_below hb KH1.out
  clear KH0 KH1
  replace hB : Below w.heap.size w w5 := bl_then hB hb
  obtain ⟨c00, c01, c02, c03, c04, c05, c06, c07, c08, c09, cf0⟩ := ten hh0
  obtain ⟨d00, d01, d02, d03, d04, d05, d06, d07, d08, d09, df0⟩ := ten hh1
  have KH0 : Hid _ := hh0
  have KH1 : Hid _ := hh1
  clear hh0 hh1 hb
  by_cases q4 : f.queue.map LEvent.d = g.queue.map LEvent.d
  case neg =>
    have hq : (!decide (f.queue.map LEvent.d = g.queue.map LEvent.d)) = true := by simp [q4]
    have hq2 : decide (f.queue.map LEvent.d = g.queue.map LEvent.d) = false := by simp [q4]
    clear hf1 hg1
    go_wp2_with fail
    go_ret
    exact ⟨ret_ne (fun h => q4 (by simpa [LHost.d] using congrArg DHost.queue h)), hB⟩
  have hq : (!decide (f.queue.map LEvent.d = g.queue.map LEvent.d)) = false := by simp [q4]
  have hq2 : decide (f.queue.map LEvent.d = g.queue.map LEvent.d) = true := by simp [q4]
  have Q4 : Hid _ := q4
  clear q4 hf1 hg1
  go_wp2_with fail
  all_goals (go_ret; refine ⟨?_, hB⟩)
  all_goals
    have e0 := Q0.out
    have e1 := Q1.out
    have e2 := Q2.out
    have e3 := Q3.out
    have e4 := Q4.out
    simp_all [LHost.d]

end Go.Proofs.Ytcfhjmflnochcaa