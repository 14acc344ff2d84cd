/-
  The reference's tests of validity: each answers as the plain test of plain data.
-/
import Derived.Test.YtcfhjmflnochcaaMod
import Derived.Test.YtcfhjmflnochcaaEq
import Derived.Test.YtcfhjmflnochcaaSz
set_option linter.unusedVariables false
set_option linter.unusedSimpArgs false
namespace Go.Proofs.Ytcfhjmflnochcaa
open Go.RowKit
variable {p q : Prop}

theorem l1dataLen_any (w : World) (f : LFrame) :
    Calls Try.prog 93 #[.agg #[.bool f.ext, .int .u32 f.id, .bool f.rtr, .int .i64 f.dlc, .slice f.A f.data.length f.cap]] w
      fun e w' => e = .returned (.int .i64 (dataLen f.rtr f.dlc)) ∧ Below w.heap.size w w' := by
  go_enter Try.func93, Try.ntmps93
  go_wp2_with fail
  all_goals (go_ret; refine ⟨?_, (by repeat first | with_reducible exact Below.refl _ _ | with_reducible assumption | with_reducible refine bl_alloc ?_ _ | with_reducible refine bl_drewN ?_ _ | with_reducible refine Below.drew ?_ | (refine bl_set ?_ (by simp <;> omega) _))⟩; simp_all [dataLen])
  all_goals omega

theorem five_below {w W W' : World} {b : Nat} {a0 a1 a2 a3 a4 : Value} (h : W.cell? ⟨b, 0, none⟩ = some a0 ∧ W.cell? ⟨b, 1, none⟩ = some a1 ∧ W.cell? ⟨b, 2, none⟩ = some a2 ∧ W.cell? ⟨b, 3, none⟩ = some a3 ∧ W.cell? ⟨b, 4, none⟩ = some a4 ∧ b < W.heap.size ∧ Below w.heap.size w W) (k : Below W.heap.size W W') :
    W'.cell? ⟨b, 0, none⟩ = some a0 ∧ W'.cell? ⟨b, 1, none⟩ = some a1 ∧ W'.cell? ⟨b, 2, none⟩ = some a2 ∧ W'.cell? ⟨b, 3, none⟩ = some a3 ∧ W'.cell? ⟨b, 4, none⟩ = some a4 ∧ b < W'.heap.size ∧ Below w.heap.size w W' := by
  obtain ⟨c0, c1, c2, c3, c4, hs, hb⟩ := h
  exact ⟨(k.cell hs).trans c0, (k.cell hs).trans c1, (k.cell hs).trans c2, (k.cell hs).trans c3, (k.cell hs).trans c4, Nat.lt_of_lt_of_le hs k.size, bl_then hb k⟩

set_option maxRecDepth 100000 in
theorem ValidFrame_any (w : World) (f : LFrame) (lx : f.data.length ≤ 1099511627776) :
    Calls Try.prog 62 #[.agg #[.bool f.ext, .int .u32 f.id, .bool f.rtr, .int .i64 f.dlc, .slice f.A f.data.length f.cap]] w
      fun e w' => e = .returned (.bool (decide f.d.Ok)) ∧ Below w.heap.size w w' := by
  have hh := heap_new (W := w) (.cells #[.bool f.ext, .int .u32 f.id, .bool f.rtr, .int .i64 f.dlc, .slice f.A f.data.length f.cap] 49) _ rfl
  have hb : Below w.heap.size w (w.alloc (.cells #[.bool f.ext, .int .u32 f.id, .bool f.rtr, .int .i64 f.dlc, .slice f.A f.data.length f.cap] 49)) := (by repeat first | with_reducible exact Below.refl _ _ | with_reducible assumption | with_reducible refine bl_alloc ?_ _ | with_reducible refine bl_drewN ?_ _ | with_reducible refine Below.drew ?_ | (refine bl_set ?_ (by simp <;> omega) _))
  have hz := lt_of_heap hh
  obtain ⟨c0, c1, c2, c3, c4, _⟩ := five hh
  have hS : Hid _ := And.intro c0 (And.intro c1 (And.intro c2 (And.intro c3 (And.intro c4 (And.intro hz hb)))))
  clear c0 c1 c2 c3 c4 hz hb hh
  obtain ⟨ext, id, rtr, dlc, A, cap, data⟩ := f
  cases ext
  all_goals go_enter Try.func62, Try.ntmps62
  all_goals go_wp2_with fail
  all_goals first
    | (go_ret; refine ⟨?_, (by repeat first | with_reducible exact Below.refl _ _ | with_reducible assumption | with_reducible refine bl_alloc ?_ _ | with_reducible refine bl_drewN ?_ _ | with_reducible refine Below.drew ?_ | (refine bl_set ?_ (by simp <;> omega) _))⟩; (apply ret_ne; rw [DFrame.ok_iff]; simp only [LFrame.d, idTop]; simp; omega))
    | skip
  · replace hS := hS.out
    generalize w.alloc _ = W at hS ⊢
    generalize hb0 : w.heap.size = b at hS ⊢
    subst hb0
    have hL : Hid (decide ((data.length : Int) = dataLen rtr dlc) = decide (DFrame.Ok ⟨false, id, rtr, dlc, data⟩)) := decide_eq_decide.2 (by rw [DFrame.ok_iff]; simp only [idTop]; simp; omega)
    go_region_held3 (fun W => W.cell? ⟨w.heap.size, 0, none⟩ = some (.bool false) ∧ W.cell? ⟨w.heap.size, 1, none⟩ = some (.int .u32 id) ∧ W.cell? ⟨w.heap.size, 2, none⟩ = some (.bool rtr) ∧ W.cell? ⟨w.heap.size, 3, none⟩ = some (.int .i64 dlc) ∧ W.cell? ⟨w.heap.size, 4, none⟩ = some (.slice A data.length cap) ∧ w.heap.size < W.heap.size ∧ Below w.heap.size w W)
      (first | exact five_below (by assumption) (Below.drew (Below.refl _ _)) | exact five_below (by assumption) (by assumption)) ((go_at_call 93; refine (l1dataLen_any _ ⟨false, id, rtr, dlc, A, cap, data⟩).mono ?_; rintro e w1 ⟨rfl, hbb⟩))
    rename_i hF
    replace hF := hF.2.2.2.2.2.2
    go_wp2_with fail
    go_ret
    exact ⟨congrArg (fun z => Ending.returned (.bool z)) hL.out, hF⟩
  · replace hS := hS.out
    generalize w.alloc _ = W at hS ⊢
    generalize hb0 : w.heap.size = b at hS ⊢
    subst hb0
    have hL : Hid (decide ((data.length : Int) = dataLen rtr dlc) = decide (DFrame.Ok ⟨true, id, rtr, dlc, data⟩)) := decide_eq_decide.2 (by rw [DFrame.ok_iff]; simp only [idTop]; simp; omega)
    go_region_held3 (fun W => W.cell? ⟨w.heap.size, 0, none⟩ = some (.bool true) ∧ W.cell? ⟨w.heap.size, 1, none⟩ = some (.int .u32 id) ∧ W.cell? ⟨w.heap.size, 2, none⟩ = some (.bool rtr) ∧ W.cell? ⟨w.heap.size, 3, none⟩ = some (.int .i64 dlc) ∧ W.cell? ⟨w.heap.size, 4, none⟩ = some (.slice A data.length cap) ∧ w.heap.size < W.heap.size ∧ Below w.heap.size w W)
      (first | exact five_below (by assumption) (Below.drew (Below.refl _ _)) | exact five_below (by assumption) (by assumption)) ((go_at_call 93; refine (l1dataLen_any _ ⟨true, id, rtr, dlc, A, cap, data⟩).mono ?_; rintro e w1 ⟨rfl, hbb⟩))
    rename_i hF
    replace hF := hF.2.2.2.2.2.2
    go_wp2_with fail
    go_ret
    exact ⟨congrArg (fun z => Ending.returned (.bool z)) hL.out, hF⟩

theorem ret_iff {b : Bool} {p : Prop} [Decidable p] (h : b = true ↔ p) : Ending.returned (.bool b) = .returned (.bool (decide p)) := by
  by_cases hp : p
  · rw [h.2 hp, decide_eq_true hp]
  · rw [decide_eq_false hp]
    cases b with
    | false => rfl
    | true => exact absurd (h.1 rfl) hp
theorem ok_iff_zero (f : DFrame) : f = DFrame.zero ↔ f.ext = false ∧ f.id = 0 ∧ f.rtr = false ∧ f.dlc = 0 ∧ f.data.length = 0 := by
  obtain ⟨ext, id, rtr, dlc, data⟩ := f
  simp [DFrame.zero]
theorem l3zeroFrame_any (w : World) (f : LFrame) :
    Calls Try.prog 63 #[.agg #[.bool f.ext, .int .u32 f.id, .bool f.rtr, .int .i64 f.dlc, .slice f.A f.data.length f.cap]] w
      fun e w' => e = .returned (.bool (decide (f.d = DFrame.zero))) ∧ Below w.heap.size w w' := by
  have hh := heap_new (W := w) (.cells #[.bool f.ext, .int .u32 f.id, .bool f.rtr, .int .i64 f.dlc, .slice f.A f.data.length f.cap] 49) _ rfl
  obtain ⟨c0, c1, c2, c3, c4, _⟩ := five hh
  obtain ⟨ext, id, rtr, dlc, A, cap, data⟩ := f
  cases ext <;> cases rtr
  all_goals go_enter Try.func63, Try.ntmps63
  all_goals go_wp2_with fail
  all_goals go_ret
  all_goals refine ⟨?_, (by repeat first | with_reducible exact Below.refl _ _ | with_reducible assumption | with_reducible refine bl_alloc ?_ _ | with_reducible refine bl_drewN ?_ _ | with_reducible refine Below.drew ?_ | (refine bl_set ?_ (by simp <;> omega) _))⟩
  all_goals first
    | (apply ret_ne; rw [ok_iff_zero]; simp only [LFrame.d]; simp; omega)
    | (refine ret_iff ?_; rw [ok_iff_zero]; simp only [LFrame.d]; simp; done)
    | (refine ret_iff ?_; rw [ok_iff_zero]; simp only [LFrame.d]; simp; omega)

theorem l3okConfig_any (w : World) (c : DConfig) :
    Calls Try.prog 60 #[.agg #[.int .i64 c.boxes, .int .i64 c.fifo, .int .i64 c.policy, .int .i64 c.events]] w
      fun e w' => e = .returned (.bool (decide c.Ok)) ∧ Below w.heap.size w w' := by
  go_enter Try.func60, Try.ntmps60
  go_wp2_with fail
  all_goals go_ret
  all_goals refine ⟨?_, (by repeat first | with_reducible exact Below.refl _ _ | with_reducible assumption | with_reducible refine bl_alloc ?_ _ | with_reducible refine bl_drewN ?_ _ | with_reducible refine Below.drew ?_ | (refine bl_set ?_ (by simp <;> omega) _))⟩
  all_goals first
    | (apply ret_ne; unfold DConfig.Ok; omega)
    | (refine congrArg (fun z => Ending.returned (.bool z)) (decide_eq_decide.2 ?_); unfold DConfig.Ok; omega)

theorem filter_top (ext : Bool) : ((if ext then 536870912 else 2048 : Int)) = idTop ext := by cases ext <;> rfl
theorem okFilters_succ {xs : List DFilter} {k : Nat} (hk : k < xs.length) (h : ∀ f ∈ xs.take k, f.Ok) (h1 : xs[k].Ok) : ∀ f ∈ xs.take (k + 1), f.Ok := by
  rw [List.take_succ_eq_append_getElem hk]
  intro f hf
  rcases List.mem_append.1 hf with hf | hf
  · exact h f hf
  · exact (List.mem_singleton.1 hf) ▸ h1
theorem l3okFilters_any (w : World) (A : Option Addr) (c : Nat) (e1 : TypeId) (xs : List DFilter) (lx : xs.length ≤ 1099511627776) (hx : Cells p w e1 A (xs.flatMap DFilter.cs)) :
    Calls Try.prog 61 #[.slice A xs.length c] w fun e w' => e = .returned (.bool (decide (FiltersOk xs))) ∧ Below w.heap.size w w' := by
  by_cases hl : xs.length ≤ 16
  · have H : Hid _ := hl
    have hl' : ¬ ((16 : Int) < xs.length) := by omega
    have hf1 := fun W (h : Below w.heap.size w W) => hx.below h
    clear hx
    go_enter Try.func61, Try.ntmps61
    go_wp2_with fail
    go_loopw [3] (fun i wr => ∃ k : Nat, k ≤ xs.length ∧ i = .int .i64 k ∧ Below w.heap.size w wr ∧ Hid (∀ f ∈ xs.take k, f.Ok)) (fun i _ => xs.length - (intOf i).toNat)
    case atStart => exact ⟨0, by omega, rfl, Below.refl _ _, by simp [Hid]⟩
    case round =>
      obtain ⟨k, hk, rfl, hb, hp⟩ := hrel
      by_cases hlt : k < xs.length
      · obtain ⟨g, o, rfl, hg, ⟨c0, c1, c2⟩⟩ := filterAt (hf1 wr hb) k hlt
        clear hf1
        obtain ⟨y, hy⟩ : ∃ y, y = xs[k] := ⟨_, rfl⟩
        rw [← hy] at c0 c1 c2
        have HY : Hid _ := hy
        clear hy
        obtain ⟨ext, m1, m2⟩ := y
        dsimp only at c0 c1 c2
        cases ext
        all_goals go_wp2_with fail
        all_goals first
          | (go_roundw
             case rel => exact ⟨k + 1, by omega, by go_num, hb, okFilters_succ hlt hp (by rw [← HY.out]; simp only [DFilter.Ok, idTop]; simp; omega)⟩
             case measure => simp [intOf]; omega)
          | (go_ret
             refine ⟨ret_ne (fun h => ?_), hb⟩
             have := h.2 _ (List.getElem_mem hlt)
             rw [← HY.out] at this
             have h1 := this.1
             have h2 := this.2
             simp only [idTop] at h1 h2
             simp at h1 h2
             omega)
      · clear hf1
        go_wp2_with fail
        go_ret
        refine ⟨ret_eq ⟨H.out, ?_⟩, hb⟩
        have := hp
        rw [List.take_of_length_le (by omega)] at this
        exact this
  · have hl' : ((16 : Int) < xs.length) := by omega
    go_enter Try.func61, Try.ntmps61
    go_wp2_with fail
    go_ret
    exact ⟨ret_ne (fun h => hl h.1), (by repeat first | with_reducible exact Below.refl _ _ | with_reducible assumption | with_reducible refine bl_alloc ?_ _ | with_reducible refine bl_drewN ?_ _ | with_reducible refine Below.drew ?_ | (refine bl_set ?_ (by simp <;> omega) _))⟩
end Go.Proofs.Ytcfhjmflnochcaa
