/-
  The program's own tests of configurations, filters and frames.
-/
import Derived.Test.YtcfhjmflnochcaaOkH
import Derived.Test.YtcfhjmflnochcaaHeldHost
set_option linter.unusedVariables false
set_option linter.unusedSimpArgs false
namespace Go.Proofs.Ytcfhjmflnochcaa
open Go.RowKit
variable {p q : Prop}

theorem goodConfig_any (w : World) (c : DConfig) :
    Calls Try.prog 74 #[.agg #[.int .i64 c.boxes, .int .i64 c.fifo, .int .i64 c.policy, .int .i64 c.events]] w
      fun e w' => e = .returned (.bool (decide c.Ok)) ∧ Below w.heap.size w w' := by
  go_enter Try.func74, Try.ntmps74
  go_wp2_with fail
  all_goals go_ret
  all_goals refine ⟨?_, (by repeat first | with_reducible exact Below.refl _ _ | with_reducible assumption | with_reducible refine bl_alloc ?_ _ | with_reducible refine bl_drewN ?_ _ | with_reducible refine Below.drew ?_ | (refine bl_set ?_ (by simp <;> omega) _))⟩
  all_goals first
    | (apply ret_ne; unfold DConfig.Ok; omega)
    | (refine congrArg (fun z => Ending.returned (.bool z)) (decide_eq_decide.2 ?_); unfold DConfig.Ok; omega)

theorem dataBytes_any (w : World) (rtr : Bool) (dlc : Int) :
    Calls Try.prog 96 #[.bool rtr, .int .i64 dlc] w fun e w' => e = .returned (.int .i64 (dataLen rtr dlc)) ∧ Below w.heap.size w w' := by
  cases rtr
  all_goals go_enter Try.func96, Try.ntmps96
  all_goals go_wp2_with fail
  all_goals (go_ret; refine ⟨?_, (by repeat first | with_reducible exact Below.refl _ _ | with_reducible assumption | with_reducible refine bl_alloc ?_ _ | with_reducible refine bl_drewN ?_ _ | with_reducible refine Below.drew ?_ | (refine bl_set ?_ (by simp <;> omega) _))⟩; simp [dataLen]; try omega)

theorem goodFilters_any (w : World) (A : Option Addr) (c : Nat) (e1 : TypeId) (xs : List DFilter) (lx : xs.length ≤ 1099511627776) (hx : Cells p w e1 A (xs.flatMap DFilter.cs)) :
    Calls Try.prog 75 #[.slice A xs.length c] w fun e w' => e = .returned (.bool (decide (FiltersOk xs))) ∧ Below w.heap.size w w' := by
  by_cases hl : xs.length ≤ 16
  · have H : Hid _ := hl
    have hl' : ¬ ((16 : Int) < xs.length) := by omega
    have R : Hid _ := fun W (h : Below w.heap.size w W) => hx.below h
    clear hx
    go_enter Try.func75, Try.ntmps75
    go_wp2_with fail
    go_loopw [11] (fun i wr => ∃ k : Nat, k ≤ xs.length ∧ i = .int .i64 k ∧ Below w.heap.size w wr ∧ Hid (∀ f ∈ xs.take k, f.Ok)) (fun i _ => xs.length - (intOf i).toNat)
    case atStart => exact ⟨0, by omega, rfl, Below.refl _ _, by simp [Hid]⟩
    case round =>
      obtain ⟨k, hk, rfl, hb, hp⟩ := hrel
      by_cases hlt : k < xs.length
      · obtain ⟨g, o, rfl, hg, ⟨c0, c1, c2⟩⟩ := filterAt (R.out wr hb) k hlt
        obtain ⟨y, hy⟩ : ∃ y, y = xs[k] := ⟨_, rfl⟩
        rw [← hy] at c0 c1 c2
        have HY : Hid _ := hy
        clear hy
        obtain ⟨ext, m1, m2⟩ := y
        dsimp only at c0 c1 c2
        cases ext
        all_goals go_wp2_with fail
        all_goals first
          | (go_roundw
             case rel => exact ⟨k + 1, by omega, by go_num, (by repeat first | with_reducible exact Below.refl _ _ | with_reducible assumption | with_reducible refine bl_alloc ?_ _ | with_reducible refine bl_drewN ?_ _ | with_reducible refine Below.drew ?_ | (refine bl_set ?_ (by simp <;> omega) _)), okFilters_succ hlt hp (by rw [← HY.out]; simp only [DFilter.Ok, idTop]; simp; omega)⟩
             case measure => simp [intOf]; omega)
          | (go_ret
             refine ⟨ret_ne (fun h => ?_), (by repeat first | with_reducible exact Below.refl _ _ | with_reducible assumption | with_reducible refine bl_alloc ?_ _ | with_reducible refine bl_drewN ?_ _ | with_reducible refine Below.drew ?_ | (refine bl_set ?_ (by simp <;> omega) _))⟩
             have := h.2 _ (List.getElem_mem hlt)
             rw [← HY.out] at this
             have h1 := this.1
             have h2 := this.2
             simp only [idTop] at h1 h2
             simp at h1 h2
             omega)
      · go_wp2_with fail
        go_ret
        refine ⟨ret_eq ⟨H.out, ?_⟩, hb⟩
        have := hp
        rw [List.take_of_length_le (by omega)] at this
        exact this
  · have hl' : ((16 : Int) < xs.length) := by omega
    go_enter Try.func75, Try.ntmps75
    go_wp2_with fail
    go_ret
    exact ⟨ret_ne (fun h => hl h.1), (by repeat first | with_reducible exact Below.refl _ _ | with_reducible assumption | with_reducible refine bl_alloc ?_ _ | with_reducible refine bl_drewN ?_ _ | with_reducible refine Below.drew ?_ | (refine bl_set ?_ (by simp <;> omega) _))⟩

set_option maxHeartbeats 4000000 in
set_option maxRecDepth 100000 in
theorem ValidFrameI_any (w : World) (f : LFrame) (lx : f.data.length ≤ 1099511627776) :
    Calls Try.prog 88 #[.agg #[.bool f.ext, .int .u32 f.id, .bool f.rtr, .int .i64 f.dlc, .slice f.A f.data.length f.cap]] w
      fun e w' => e = .returned (.bool (decide f.d.Ok)) ∧ Below w.heap.size w w' := by
  have hh := heap_new (W := w) (.cells #[.bool f.ext, .int .u32 f.id, .bool f.rtr, .int .i64 f.dlc, .slice f.A f.data.length f.cap] 49) _ rfl
  have hb : Below w.heap.size w (w.alloc (.cells #[.bool f.ext, .int .u32 f.id, .bool f.rtr, .int .i64 f.dlc, .slice f.A f.data.length f.cap] 49)) := (by repeat first | with_reducible exact Below.refl _ _ | with_reducible assumption | with_reducible refine bl_alloc ?_ _ | with_reducible refine bl_drewN ?_ _ | with_reducible refine Below.drew ?_ | (refine bl_set ?_ (by simp <;> omega) _))
  have hz := lt_of_heap hh
  obtain ⟨c0, c1, c2, c3, c4, _⟩ := five hh
  have hS : Hid _ := And.intro c0 (And.intro c1 (And.intro c2 (And.intro c3 (And.intro c4 (And.intro hz hb)))))
  clear c0 c1 c2 c3 c4 hz hb hh
  obtain ⟨ext, id, rtr, dlc, A, cap, data⟩ := f
  cases ext
  all_goals go_enter Try.func88, Try.ntmps88
  · have hn : Hid _ := hS.out
    by_cases h1 : id < 2048 ∧ 0 ≤ dlc ∧ dlc ≤ 15
    · have q1 : decide (id < 2048) = true := decide_eq_true h1.1
      have q2 : decide (0 ≤ dlc) = true := decide_eq_true h1.2.1
      have q3 : decide (dlc ≤ 15) = true := decide_eq_true h1.2.2
      have hL : Hid (decide ((data.length : Int) = dataLen rtr dlc) = decide (DFrame.Ok ⟨false, id, rtr, dlc, data⟩)) := decide_eq_decide.2 (by rw [DFrame.ok_iff]; simp only [idTop]; simp; omega)
      have H1 : Hid _ := h1
      clear h1
      go_wp2_with fail
      replace hS := hS.out
      generalize w.alloc _ = W at hS ⊢
      go_region_held3 (fun W => W.cell? ⟨w.heap.size, 0, none⟩ = some (.bool false) ∧ W.cell? ⟨w.heap.size, 1, none⟩ = some (.int .u32 id) ∧ W.cell? ⟨w.heap.size, 2, none⟩ = some (.bool rtr) ∧ W.cell? ⟨w.heap.size, 3, none⟩ = some (.int .i64 dlc) ∧ W.cell? ⟨w.heap.size, 4, none⟩ = some (.slice A data.length cap) ∧ w.heap.size < W.heap.size ∧ Below w.heap.size w W)
        (first | exact five_below (by assumption) (Below.drew (Below.refl _ _)) | exact five_below (by assumption) (by assumption)) ((go_at_call 96; refine (dataBytes_any _ rtr dlc).mono ?_; rintro e w1 ⟨rfl, hbb⟩))
      rename_i hF
      replace hF := hF.2.2.2.2.2.2
      go_wp2_with fail
      go_ret
      exact ⟨congrArg (fun z => Ending.returned (.bool z)) hL.out, hF⟩
    · have HN : Hid (¬ DFrame.Ok ⟨false, id, rtr, dlc, data⟩) := fun h => h1 (by have a := h.id; simp only [idTop] at a; simp at a; exact ⟨a, h.lo, h.hi⟩)
      by_cases h2 : id < 2048
      · have q1 : decide (id < 2048) = true := decide_eq_true h2
        by_cases h3 : 0 ≤ dlc
        · have q2 : decide (0 ≤ dlc) = true := decide_eq_true h3
          have q3 : decide (dlc ≤ 15) = false := decide_eq_false (fun h => h1 ⟨h2, h3, h⟩)
          clear h1 h2 h3
          go_wp2_with fail
          go_quiet (fail)
          go_wp2_with fail
          go_ret
          exact ⟨ret_ne HN.out, (by repeat first | with_reducible exact Below.refl _ _ | with_reducible assumption | with_reducible refine bl_alloc ?_ _ | with_reducible refine bl_drewN ?_ _ | with_reducible refine Below.drew ?_ | (refine bl_set ?_ (by simp <;> omega) _))⟩
        · have q2 : decide (0 ≤ dlc) = false := decide_eq_false h3
          clear h1 h2 h3
          go_wp2_with fail
          go_quiet (fail)
          go_wp2_with fail
          go_ret
          exact ⟨ret_ne HN.out, (by repeat first | with_reducible exact Below.refl _ _ | with_reducible assumption | with_reducible refine bl_alloc ?_ _ | with_reducible refine bl_drewN ?_ _ | with_reducible refine Below.drew ?_ | (refine bl_set ?_ (by simp <;> omega) _))⟩
      · have q1 : decide (id < 2048) = false := decide_eq_false h2
        clear h1 h2
        go_wp2_with fail
        go_quiet (fail)
        go_wp2_with fail
        go_ret
        exact ⟨ret_ne HN.out, (by repeat first | with_reducible exact Below.refl _ _ | with_reducible assumption | with_reducible refine bl_alloc ?_ _ | with_reducible refine bl_drewN ?_ _ | with_reducible refine Below.drew ?_ | (refine bl_set ?_ (by simp <;> omega) _))⟩
  · have hn : Hid _ := hS.out
    by_cases h1 : id < 536870912 ∧ 0 ≤ dlc ∧ dlc ≤ 15
    · have q1 : decide (id < 536870912) = true := decide_eq_true h1.1
      have q2 : decide (0 ≤ dlc) = true := decide_eq_true h1.2.1
      have q3 : decide (dlc ≤ 15) = true := decide_eq_true h1.2.2
      have hL : Hid (decide ((data.length : Int) = dataLen rtr dlc) = decide (DFrame.Ok ⟨true, id, rtr, dlc, data⟩)) := decide_eq_decide.2 (by rw [DFrame.ok_iff]; simp only [idTop]; simp; omega)
      have H1 : Hid _ := h1
      clear h1
      go_wp2_with fail
      replace hS := hS.out
      generalize w.alloc _ = W at hS ⊢
      go_region_held3 (fun W => W.cell? ⟨w.heap.size, 0, none⟩ = some (.bool true) ∧ W.cell? ⟨w.heap.size, 1, none⟩ = some (.int .u32 id) ∧ W.cell? ⟨w.heap.size, 2, none⟩ = some (.bool rtr) ∧ W.cell? ⟨w.heap.size, 3, none⟩ = some (.int .i64 dlc) ∧ W.cell? ⟨w.heap.size, 4, none⟩ = some (.slice A data.length cap) ∧ w.heap.size < W.heap.size ∧ Below w.heap.size w W)
        (first | exact five_below (by assumption) (Below.drew (Below.refl _ _)) | exact five_below (by assumption) (by assumption)) ((go_at_call 96; refine (dataBytes_any _ rtr dlc).mono ?_; rintro e w1 ⟨rfl, hbb⟩))
      rename_i hF
      replace hF := hF.2.2.2.2.2.2
      go_wp2_with fail
      go_ret
      exact ⟨congrArg (fun z => Ending.returned (.bool z)) hL.out, hF⟩
    · have HN : Hid (¬ DFrame.Ok ⟨true, id, rtr, dlc, data⟩) := fun h => h1 (by have a := h.id; simp only [idTop] at a; simp at a; exact ⟨a, h.lo, h.hi⟩)
      by_cases h2 : id < 536870912
      · have q1 : decide (id < 536870912) = true := decide_eq_true h2
        by_cases h3 : 0 ≤ dlc
        · have q2 : decide (0 ≤ dlc) = true := decide_eq_true h3
          have q3 : decide (dlc ≤ 15) = false := decide_eq_false (fun h => h1 ⟨h2, h3, h⟩)
          clear h1 h2 h3
          go_wp2_with fail
          go_quiet (fail)
          go_wp2_with fail
          go_ret
          exact ⟨ret_ne HN.out, (by repeat first | with_reducible exact Below.refl _ _ | with_reducible assumption | with_reducible refine bl_alloc ?_ _ | with_reducible refine bl_drewN ?_ _ | with_reducible refine Below.drew ?_ | (refine bl_set ?_ (by simp <;> omega) _))⟩
        · have q2 : decide (0 ≤ dlc) = false := decide_eq_false h3
          clear h1 h2 h3
          go_wp2_with fail
          go_quiet (fail)
          go_wp2_with fail
          go_ret
          exact ⟨ret_ne HN.out, (by repeat first | with_reducible exact Below.refl _ _ | with_reducible assumption | with_reducible refine bl_alloc ?_ _ | with_reducible refine bl_drewN ?_ _ | with_reducible refine Below.drew ?_ | (refine bl_set ?_ (by simp <;> omega) _))⟩
      · have q1 : decide (id < 536870912) = false := decide_eq_false h2
        clear h1 h2
        go_wp2_with fail
        go_quiet (fail)
        go_wp2_with fail
        go_ret
        exact ⟨ret_ne HN.out, (by repeat first | with_reducible exact Below.refl _ _ | with_reducible assumption | with_reducible refine bl_alloc ?_ _ | with_reducible refine bl_drewN ?_ _ | with_reducible refine Below.drew ?_ | (refine bl_set ?_ (by simp <;> omega) _))⟩

theorem eqBB (w : World) (a b c d : Bool) : (Op.equalIn 10000 133 (.agg #[.bool a, .bool b]) (.agg #[.bool c, .bool d])).run Try.prog w = .ok (a == c && b == d) w := by
  cases a <;> cases b <;> cases c <;> cases d <;> kernel_rfl
set_option maxHeartbeats 4000000 in
set_option maxRecDepth 100000 in
theorem sameFrame_any (w : World) (f g : LFrame) (lx : f.data.length ≤ 1099511627776) (ly : g.data.length ≤ 1099511627776) (hf : FrameR p w f) (hg : FrameR q w g) :
    Calls Try.prog 97 #[.agg #[.bool f.ext, .int .u32 f.id, .bool f.rtr, .int .i64 f.dlc, .slice f.A f.data.length f.cap], .agg #[.bool g.ext, .int .u32 g.id, .bool g.rtr, .int .i64 g.dlc, .slice g.A g.data.length g.cap]] w
      fun e w' => e = .returned (.bool (decide (f.d = g.d))) ∧ Below w.heap.size w w' := by
  have R1 : Hid _ := fun W (h : Below w.heap.size w W) => hf.below h
  have R2 : Hid _ := fun W (h : Below w.heap.size w W) => hg.below h
  clear hf hg
  obtain ⟨ext, id, rtr, dlc, A, cap, xs⟩ := f
  obtain ⟨ext', id', rtr', dlc', A', cap', ys⟩ := g
  dsimp only at *
  have hh0 := heap_old (.cells #[.bool ext', .int .u32 id', .bool rtr', .int .i64 dlc', .slice A' ys.length cap'] 49) (heap_new (W := w) (.cells #[.bool ext, .int .u32 id, .bool rtr, .int .i64 dlc, .slice A xs.length cap] 49) _ rfl)
  have hh1 := heap_new (W := w.alloc (.cells #[.bool ext, .int .u32 id, .bool rtr, .int .i64 dlc, .slice A xs.length cap] 49)) (.cells #[.bool ext', .int .u32 id', .bool rtr', .int .i64 dlc', .slice A' ys.length cap'] 49) (w.heap.size + 1) (by simp)
  have hB0 : (Below w.heap.size w ((w.alloc (.cells #[.bool ext, .int .u32 id, .bool rtr, .int .i64 dlc, .slice A xs.length cap] 49)).alloc (.cells #[.bool ext', .int .u32 id', .bool rtr', .int .i64 dlc', .slice A' ys.length cap'] 49))) := (by repeat first | with_reducible exact Below.refl _ _ | with_reducible assumption | with_reducible refine bl_alloc ?_ _ | with_reducible refine bl_drewN ?_ _ | with_reducible refine Below.drew ?_ | (refine bl_set ?_ (by simp <;> omega) _))
  have hB : Hid _ := hB0
  clear hB0
  have hE := fun W : World => eqBB W ext rtr ext' rtr'
  have K0 : Hid _ := hh0
  have K1 : Hid _ := hh1
  clear hh0 hh1
  by_cases h1 : ext = ext' ∧ rtr = rtr' ∧ id = id' ∧ dlc = dlc' ∧ xs.length = ys.length
  · obtain ⟨rfl, rfl, rfl, rfl, hl⟩ := h1
    have HL : Hid _ := hl
    have q1 : ((xs.length : Int) != ys.length) = false := by simp [hl]
    simp only [beq_self_eq_true, Bool.and_self] at hE
    clear hl
    go_enter Try.func97, Try.ntmps97
    go_wp2_with fail
    go_loopw [43] (fun i wr => ∃ k : Nat, k ≤ xs.length ∧ i = .int .i64 k ∧ wr.heap[w.heap.size]? = some (.cells #[.bool ext, .int .u32 id, .bool rtr, .int .i64 dlc, .slice A xs.length cap] 49 (0, 0)) ∧ wr.heap[w.heap.size + 1]? = some (.cells #[.bool ext, .int .u32 id, .bool rtr, .int .i64 dlc, .slice A' ys.length cap'] 49 (0, 0)) ∧ Below w.heap.size w wr ∧ Hid (xs.take k = ys.take k)) (fun i _ => xs.length - (intOf i).toNat)
    case atStart => exact ⟨0, by omega, rfl, K0.out, K1.out, hB.out, by simp [Hid]⟩
    case round =>
      obtain ⟨k, hk, rfl, h0, h1, hb, hp⟩ := hrel
      obtain ⟨c0, c1, c2, c3, c4, cf⟩ := five h0
      obtain ⟨d0, d1, d2, d3, d4, df⟩ := five h1
      have z0 := lt_of_heap h0
      have z1 := lt_of_heap h1
      have H0 : Hid _ := h0
      have H1 : Hid _ := h1
      clear h0 h1
      by_cases hlt : k < xs.length
      · have hlt2 : k < ys.length := by have := HL.out; omega
        obtain ⟨g, o, rfl, hg, ⟨e0⟩⟩ := byteAt (R1.out wr hb) k hlt
        obtain ⟨g', o', rfl, hg', ⟨f0⟩⟩ := byteAt (R2.out wr hb) k hlt2
        by_cases he : xs[k] = ys[k]
        · have hq : (xs[k] != ys[k]) = false := by simp [he]
          have HE : Hid _ := he
          clear he
          go_wp2_with fail
          go_quiet (fail)
          go_wp2_with fail
          go_roundw
          case rel => exact ⟨k + 1, by omega, by go_num, heap_drewN H0.out _, heap_drewN H1.out _, bl_drewN hb _, take_succ_eq hp.out hlt hlt2 HE.out⟩
          case measure => simp [intOf]; omega
        · have hq : (xs[k] != ys[k]) = true := by simp [he]
          have HE : Hid _ := he
          clear he
          go_wp2_with fail
          go_quiet (fail)
          go_wp2_with fail
          go_ret
          exact ⟨ret_ne (fun h => HE.out (by
            have h2 : xs = ys := congrArg DFrame.data h
            subst h2; rfl)), bl_drewN hb _⟩
      · have HN : Hid _ := hlt
        go_wp2_with fail
        go_ret
        refine ⟨ret_eq ?_, hb⟩
        have := hp.out
        rw [List.take_of_length_le (by have := HN.out; omega), List.take_of_length_le (by have := HN.out; have := HL.out; omega)] at this
        subst this
        rfl
  · have HN : Hid (¬ (LFrame.d ⟨ext, id, rtr, dlc, A, cap, xs⟩ = LFrame.d ⟨ext', id', rtr', dlc', A', cap', ys⟩)) := fun h => h1 (by injection h with a b c d e; exact ⟨a, c, b, d, congrArg List.length e⟩)
    by_cases h2 : ext = ext' ∧ rtr = rtr'
    · have q0 : (ext == ext' && rtr == rtr') = true := by simp [h2]
      rw [q0] at hE
      have H2 : Hid _ := h2
      have H1 : Hid _ := h1
      clear h1 h2 q0
      by_cases e1 : id = id'
      · by_cases e2 : dlc = dlc'
        · have q1 : ((xs.length : Int) != ys.length) = true := by
            have : xs.length ≠ ys.length := fun h => H1.out ⟨H2.out.1, H2.out.2, e1, e2, h⟩
            simp; omega
          subst e1 e2
          clear H1 H2
          go_enter Try.func97, Try.ntmps97
          go_wp2_with fail
          go_ret
          exact ⟨ret_ne HN.out, hB.out⟩
        · have q1 : (dlc != dlc') = true := by simpa using e2
          subst e1
          clear H1 H2 e2
          go_enter Try.func97, Try.ntmps97
          go_wp2_with fail
          go_ret
          exact ⟨ret_ne HN.out, hB.out⟩
      · have q1 : (id != id') = true := by simpa using e1
        clear H1 H2 e1
        go_enter Try.func97, Try.ntmps97
        go_wp2_with fail
        go_ret
        exact ⟨ret_ne HN.out, hB.out⟩
    · have q0 : (ext == ext' && rtr == rtr') = false := by simp; simpa using h2
      rw [q0] at hE
      clear h1 h2
      go_enter Try.func97, Try.ntmps97
      go_wp2_with fail
      go_ret
      exact ⟨ret_ne HN.out, hB.out⟩
end Go.Proofs.Ytcfhjmflnochcaa
