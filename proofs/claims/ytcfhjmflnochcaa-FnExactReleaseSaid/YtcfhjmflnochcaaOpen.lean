/-
  Arguments opened: whatever value of the law's parameter types can be read is a host (a frame) that lies in memory as such.
-/
import Derived.Test.YtcfhjmflnochcaaApp
import Derived.Deep.Slices
set_option linter.unusedVariables false
set_option linter.unusedSimpArgs false
namespace Go.Proofs.Ytcfhjmflnochcaa
open Go.RowKit Go.ChangeShapes Go.WideShapes Go.Deep
variable {H : Type} {enc : TypeId × Value → H} {W : World} {sp : Nat → Bool} {hd : Bool}

theorem fields_of {t : TypeId} {fs : Array Field} {fuel : Nat} {cs : List Value} {x : DataW H × List MemPlace} (ht : Try.prog.underlying t = some (.struct fs)) (h : DataW.trod enc Try.prog W 0 sp hd fuel t cs = some x) :
    cs.length = Try.prog.cellsOf t ∧ ∃ n, ∀ (i : Nat) (f : Field), fs[i]? = some f → ∃ y, DataW.trod enc Try.prog W 0 sp hd n f.type ((cs.drop f.offset).take (Try.prog.cellsOf f.type)) = some y := by
  obtain ⟨xs, n, rfl, rfl, hl, hx, hf⟩ := DataW.trod_struct ht h
  refine ⟨hl, n, fun i f hi => ?_⟩
  have hlt : i < xs.length := by rw [hx]; exact (Array.getElem?_eq_some_iff.1 hi).1
  exact ⟨xs[i], by rw [hf i f hi, List.getElem?_eq_getElem hlt]⟩
theorem addr_of {a : Addr} {v : Value} (h : W.cell? a = some v) : ∃ all e fr, a = ⟨a.block, a.off, none⟩ ∧ W.heap[a.block]? = some (.cells all e fr) := by
  unfold World.cell? at h
  split at h
  · rename_i c e fr hb
    split at h
    · cases h
    · rename_i hs
      refine ⟨c, e, fr, ?_, hb⟩
      obtain ⟨b, o, s⟩ := a
      cases s
      · rfl
      · simp at hs
  · cases h
/-- A slice whose elements are encoded by enc': a row. -/
theorem open_rowG {α : Type} [Inhabited α] {en : α → List Value} {sz : Nat} (he : ∀ x, (en x).length = sz) (hs : 0 < sz) {Q : α → Prop} {t e : TypeId} (ht : Try.prog.underlying t = some (.slice e)) (hc : Try.prog.cellsOf e = sz)
    (ho : ∀ fuel cs x, DataW.trod enc Try.prog W 0 sp hd fuel e cs = some x → ∃ y : α, cs = en y ∧ Q y) {fuel : Nat} {cs : List Value} {x : DataW H × List MemPlace} (h : DataW.trod enc Try.prog W 0 sp hd fuel t cs = some x) :
    ∃ (A : Option Addr) (ys : List α) (c : Nat), cs = [.slice A ys.length c] ∧ Cells False W e A (ys.flatMap en) ∧ (∀ y ∈ ys, Q y) ∧ ys.length ≤ 9223372036854775807 := by
  rcases open_slice ht h with ⟨rfl, _⟩ | ⟨a, len, cap, m, n, D, Pl, rfl, hb, hl, hm, hmm, rfl, hx⟩
  · exact ⟨none, [], 0, rfl, .inl rfl, by simp, by simp⟩
  · have hlm : len ≤ m := by rw [hmm]; split <;> omega
    obtain ⟨Y, hY⟩ := choose_lt (α := α) (p := fun i y => W.cells? 0 (a.add (i * sz)) sz = some (en y) ∧ Q y) (n := len) (fun i hi => by
      obtain ⟨cs', h1, h2⟩ := hx i (by omega)
      obtain ⟨y, rfl, hq⟩ := ho _ _ _ h2
      rw [hc] at h1
      exact ⟨y, h1, hq⟩)
    refine ⟨some a, (List.range len).map Y, cap, by simp, ?_, fun y hy => ?_, ?_⟩
    · rcases Nat.eq_zero_or_pos len with h0 | h0
      · subst h0; exact .inl (by simp)
      · have h00 := (hY 0 h0).1
        obtain ⟨_, _, hcell⟩ := World.cells?_some h00
        have c0 := hcell 0 hs
        rw [List.getElem?_eq_getElem (by rw [he]; exact hs)] at c0
        have ea : (a.add (0 * sz)).add 0 = a := by simp [Addr.add]
        rw [ea] at c0
        obtain ⟨all, e', fr, h1, h2⟩ := addr_of c0
        refine .inr ⟨a.block, a.off, all, e', fr, congrArg some h1, h2, fun h => h.elim, fun i hi => ?_⟩
        rw [flatMap_len he, List.length_map, List.length_range] at hi
        have hq : i / sz < len := (Nat.div_lt_iff_lt_mul hs).2 hi
        have hr : i % sz < sz := Nat.mod_lt _ hs
        have hii : i = i / sz * sz + i % sz := by rw [Nat.mul_comm]; exact (Nat.div_add_mod i sz).symm
        have g1 := flatMap_get he ((List.range len).map Y) (i / sz) (i % sz) (by simpa using hq) hr
        rw [← hii] at g1
        rw [g1]
        obtain ⟨_, _, hcl⟩ := World.cells?_some (hY _ hq).1
        have g2 := hcl _ hr
        simp only [List.getElem_map, List.getElem_range]
        rw [← g2, add_add, ← hii]
        have e3 : W.cell? (a.add i) = all[a.off + i]? := by
          rw [h1]
          unfold Addr.add World.cell?
          by_cases hz : i = 0
          · subst hz; simp [h2]
          · simp [hz, h2]
        rw [e3]
    · obtain ⟨i, hi, rfl⟩ := List.mem_map.1 hy
      exact (hY i (List.mem_range.1 hi)).2
    · simp only [List.length_map, List.length_range]
      have : maxLen ≤ 9223372036854775807 := by decide
      omega
theorem len3 (cs : List Value) (h : cs.length = 3) : ∃ c0 c1 c2, cs = [c0, c1, c2] := by
  match cs, h with
  | [a0, a1, a2], _ => exact ⟨a0, a1, a2, rfl⟩
theorem len4 (cs : List Value) (h : cs.length = 4) : ∃ c0 c1 c2 c3, cs = [c0, c1, c2, c3] := by
  match cs, h with
  | [a0, a1, a2, a3], _ => exact ⟨a0, a1, a2, a3, rfl⟩
theorem len5 (cs : List Value) (h : cs.length = 5) : ∃ c0 c1 c2 c3 c4, cs = [c0, c1, c2, c3, c4] := by
  match cs, h with
  | [a0, a1, a2, a3, a4], _ => exact ⟨a0, a1, a2, a3, a4, rfl⟩
theorem len8 (cs : List Value) (h : cs.length = 8) : ∃ c0 c1 c2 c3 c4 c5 c6 c7, cs = [c0, c1, c2, c3, c4, c5, c6, c7] := by
  match cs, h with
  | [a0, a1, a2, a3, a4, a5, a6, a7], _ => exact ⟨a0, a1, a2, a3, a4, a5, a6, a7, rfl⟩
theorem len10 (cs : List Value) (h : cs.length = 10) : ∃ c0 c1 c2 c3 c4 c5 c6 c7 c8 c9, cs = [c0, c1, c2, c3, c4, c5, c6, c7, c8, c9] := by
  match cs, h with
  | [a0, a1, a2, a3, a4, a5, a6, a7, a8, a9], _ => exact ⟨a0, a1, a2, a3, a4, a5, a6, a7, a8, a9, rfl⟩
instance : Inhabited LFrame := ⟨⟨false, 0, false, 0, none, 0, []⟩⟩
instance : Inhabited LBox := ⟨⟨0, 0, 0, default⟩⟩
instance : Inhabited LEvent := ⟨⟨0, 0, 0, default⟩⟩
instance : Inhabited DFilter := ⟨⟨false, 0, 0⟩⟩
theorem cells1 (t : TypeId) (h : t = 4 ∨ t = 3 ∨ t = 43 ∨ t = 5 ∨ t = 44 ∨ t = 24 ∨ t = 25 ∨ t = 26 ∨ t = 27) : Try.prog.cellsOf t = 1 := by
  rcases h with rfl | rfl | rfl | rfl | rfl | rfl | rfl | rfl | rfl <;> kernel_rfl
theorem cellsFr : Try.prog.cellsOf 46 = 5 := by kernel_rfl
theorem cellsFi : Try.prog.cellsOf 107 = 3 := by kernel_rfl
theorem cellsBo : Try.prog.cellsOf 87 = 8 := by kernel_rfl
theorem cellsEv : Try.prog.cellsOf 90 = 8 := by kernel_rfl
theorem cellsCf : Try.prog.cellsOf 23 = 4 := by kernel_rfl
theorem cellsHo : Try.prog.cellsOf 29 = 10 := by kernel_rfl
theorem openBytes {fuel : Nat} {cs : List Value} {x : DataW H × List MemPlace} (h : DataW.trod enc Try.prog W 0 sp hd fuel 44 cs = some x) : ∃ A xs c, cs = [.slice A xs.length c] ∧ BytesR False W A xs ∧ xs.length ≤ 9223372036854775807 := by
  obtain ⟨A, ys, c, h1, h2, _, h4⟩ := open_rowG (α := Int) (en := cByte) (Q := fun _ => True) cByte_len (by omega) Try.underlying44 (cells1 _ (by simp)) (fun fuel cs x h => by
    obtain ⟨n, rfl, _, _⟩ := DataW.trod_int Try.underlying5 h
    exact ⟨n, rfl, trivial⟩) h
  exact ⟨A, ys, c, h1, h2, h4⟩
theorem openFrame {fuel : Nat} {cs : List Value} {x : DataW H × List MemPlace} (h : DataW.trod enc Try.prog W 0 sp hd fuel 46 cs = some x) : ∃ f : LFrame, cs = f.cs ∧ FrameR False W f ∧ f.data.length ≤ 9223372036854775807 := by
  obtain ⟨hl, n, hf⟩ := fields_of Try.underlying46 h
  rw [cellsFr] at hl
  obtain ⟨c0, c1, c2, c3, c4, rfl⟩ := len5 cs hl
  obtain ⟨y0, h0⟩ := hf 0 _ rfl
  obtain ⟨y1, h1⟩ := hf 1 _ rfl
  obtain ⟨y2, h2⟩ := hf 2 _ rfl
  obtain ⟨y3, h3⟩ := hf 3 _ rfl
  obtain ⟨y4, h4⟩ := hf 4 _ rfl
  try dsimp only at h0 h1 h2 h3 h4
  rw [cells1 _ (by simp)] at h0 h1 h2 h3 h4
  obtain ⟨b0, e0, _⟩ := DataW.trod_bool Try.underlying4 h0
  obtain ⟨b1, e1, _, _⟩ := DataW.trod_int Try.underlying43 h1
  obtain ⟨b2, e2, _⟩ := DataW.trod_bool Try.underlying4 h2
  obtain ⟨b3, e3, _, _⟩ := DataW.trod_int Try.underlying3 h3
  obtain ⟨A, xs, c, e4, hx, hxl⟩ := openBytes h4
  simp at e0 e1 e2 e3 e4
  subst e0 e1 e2 e3 e4
  exact ⟨⟨b0, b1, b2, b3, A, c, xs⟩, rfl, hx, hxl⟩
theorem openFilter {fuel : Nat} {cs : List Value} {x : DataW H × List MemPlace} (h : DataW.trod enc Try.prog W 0 sp hd fuel 107 cs = some x) : ∃ f : DFilter, cs = f.cs := by
  obtain ⟨hl, n, hf⟩ := fields_of Try.underlying107 h
  rw [cellsFi] at hl
  obtain ⟨c0, c1, c2, rfl⟩ := len3 cs hl
  obtain ⟨y0, h0⟩ := hf 0 _ rfl
  obtain ⟨y1, h1⟩ := hf 1 _ rfl
  obtain ⟨y2, h2⟩ := hf 2 _ rfl
  try dsimp only at h0 h1 h2
  rw [cells1 _ (by simp)] at h0 h1 h2
  obtain ⟨b0, e0, _⟩ := DataW.trod_bool Try.underlying4 h0
  obtain ⟨b1, e1, _, _⟩ := DataW.trod_int Try.underlying43 h1
  obtain ⟨b2, e2, _, _⟩ := DataW.trod_int Try.underlying43 h2
  simp at e0 e1 e2
  subst e0 e1 e2
  exact ⟨⟨b0, b1, b2⟩, rfl⟩
theorem openBox {fuel : Nat} {cs : List Value} {x : DataW H × List MemPlace} (h : DataW.trod enc Try.prog W 0 sp hd fuel 87 cs = some x) : ∃ f : LBox, cs = f.cs ∧ FrameR False W f.f ∧ f.f.data.length ≤ 9223372036854775807 := by
  obtain ⟨hl, n, hf⟩ := fields_of Try.underlying87 h
  rw [cellsBo] at hl
  obtain ⟨c0, c1, c2, c3, c4, c5, c6, c7, rfl⟩ := len8 cs hl
  obtain ⟨y0, h0⟩ := hf 0 _ rfl
  obtain ⟨y1, h1⟩ := hf 1 _ rfl
  obtain ⟨y2, h2⟩ := hf 2 _ rfl
  obtain ⟨y3, h3⟩ : ∃ y, DataW.trod enc Try.prog W 0 sp hd n 46 (([c0, c1, c2, c3, c4, c5, c6, c7].drop 3).take (Try.prog.cellsOf 46)) = some y := hf 3 _ rfl
  try dsimp only at h0 h1 h2 h3
  rw [cells1 _ (by simp)] at h0 h1 h2
  rw [cellsFr] at h3
  obtain ⟨b0, e0, _, _⟩ := DataW.trod_int Try.underlying3 h0
  obtain ⟨b1, e1, _, _⟩ := DataW.trod_int Try.underlying3 h1
  obtain ⟨b2, e2, _, _⟩ := DataW.trod_int Try.underlying3 h2
  obtain ⟨f, e3, hx, hxl⟩ := openFrame h3
  simp [LFrame.cs] at e0 e1 e2 e3
  obtain ⟨e3, e4, e5, e6, e7⟩ := e3
  subst e0 e1 e2 e3 e4 e5 e6 e7
  exact ⟨⟨b0, b1, b2, f⟩, rfl, hx, hxl⟩
theorem openEvent {fuel : Nat} {cs : List Value} {x : DataW H × List MemPlace} (h : DataW.trod enc Try.prog W 0 sp hd fuel 90 cs = some x) : ∃ f : LEvent, cs = f.cs ∧ FrameR False W f.f ∧ f.f.data.length ≤ 9223372036854775807 := by
  obtain ⟨hl, n, hf⟩ := fields_of Try.underlying90 h
  rw [cellsEv] at hl
  obtain ⟨c0, c1, c2, c3, c4, c5, c6, c7, rfl⟩ := len8 cs hl
  obtain ⟨y0, h0⟩ := hf 0 _ rfl
  obtain ⟨y1, h1⟩ := hf 1 _ rfl
  obtain ⟨y2, h2⟩ := hf 2 _ rfl
  obtain ⟨y3, h3⟩ : ∃ y, DataW.trod enc Try.prog W 0 sp hd n 46 (([c0, c1, c2, c3, c4, c5, c6, c7].drop 3).take (Try.prog.cellsOf 46)) = some y := hf 3 _ rfl
  try dsimp only at h0 h1 h2 h3
  rw [cells1 _ (by simp)] at h0 h1 h2
  rw [cellsFr] at h3
  obtain ⟨b0, e0, _, _⟩ := DataW.trod_int Try.underlying3 h0
  obtain ⟨b1, e1, _, _⟩ := DataW.trod_int Try.underlying3 h1
  obtain ⟨b2, e2, _, _⟩ := DataW.trod_int Try.underlying3 h2
  obtain ⟨f, e3, hx, hxl⟩ := openFrame h3
  simp [LFrame.cs] at e0 e1 e2 e3
  obtain ⟨e3, e4, e5, e6, e7⟩ := e3
  subst e0 e1 e2 e3 e4 e5 e6 e7
  exact ⟨⟨b0, b1, b2, f⟩, rfl, hx, hxl⟩
theorem openConfig {fuel : Nat} {cs : List Value} {x : DataW H × List MemPlace} (h : DataW.trod enc Try.prog W 0 sp hd fuel 23 cs = some x) : ∃ c : DConfig, cs = [.int .i64 c.boxes, .int .i64 c.fifo, .int .i64 c.policy, .int .i64 c.events] := by
  obtain ⟨hl, n, hf⟩ := fields_of Try.underlying23 h
  rw [cellsCf] at hl
  obtain ⟨c0, c1, c2, c3, rfl⟩ := len4 cs hl
  obtain ⟨y0, h0⟩ := hf 0 _ rfl
  obtain ⟨y1, h1⟩ := hf 1 _ rfl
  obtain ⟨y2, h2⟩ := hf 2 _ rfl
  obtain ⟨y3, h3⟩ := hf 3 _ rfl
  try dsimp only at h0 h1 h2 h3
  rw [cells1 _ (by simp)] at h0 h1 h2 h3
  obtain ⟨b0, e0, _, _⟩ := DataW.trod_int Try.underlying3 h0
  obtain ⟨b1, e1, _, _⟩ := DataW.trod_int Try.underlying3 h1
  obtain ⟨b2, e2, _, _⟩ := DataW.trod_int Try.underlying3 h2
  obtain ⟨b3, e3, _, _⟩ := DataW.trod_int Try.underlying3 h3
  simp at e0 e1 e2 e3
  subst e0 e1 e2 e3
  exact ⟨⟨b0, b1, b2, b3⟩, rfl⟩
theorem openHost {fuel : Nat} {cs : List Value} {x : DataW H × List MemPlace} (h : DataW.trod enc Try.prog W 0 sp hd fuel 29 cs = some x) :
    ∃ f : LHost, cs = f.cs ∧ HostR False 107 87 46 90 W f ∧ f.filters.length ≤ 9223372036854775807 ∧ f.boxes.length ≤ 9223372036854775807 ∧ f.fifo.length ≤ 9223372036854775807 ∧ f.queue.length ≤ 9223372036854775807 ∧
      (∀ x ∈ f.boxes, x.f.data.length ≤ 9223372036854775807) ∧ (∀ x ∈ f.fifo, x.data.length ≤ 9223372036854775807) ∧ (∀ x ∈ f.queue, x.f.data.length ≤ 9223372036854775807) := by
  obtain ⟨hl, n, hf⟩ := fields_of Try.underlying29 h
  rw [cellsHo] at hl
  obtain ⟨c0, c1, c2, c3, c4, c5, c6, c7, c8, c9, rfl⟩ := len10 cs hl
  obtain ⟨y0, h0⟩ : ∃ y, DataW.trod enc Try.prog W 0 sp hd n 23 (([c0, c1, c2, c3, c4, c5, c6, c7, c8, c9].drop 0).take (Try.prog.cellsOf 23)) = some y := hf 0 _ rfl
  obtain ⟨y1, h1⟩ := hf 1 _ rfl
  obtain ⟨y2, h2⟩ := hf 2 _ rfl
  obtain ⟨y3, h3⟩ := hf 3 _ rfl
  obtain ⟨y4, h4⟩ := hf 4 _ rfl
  obtain ⟨y5, h5⟩ := hf 5 _ rfl
  obtain ⟨y6, h6⟩ := hf 6 _ rfl
  try dsimp only at h0 h1 h2 h3 h4 h5 h6
  rw [cellsCf] at h0
  rw [cells1 _ (by simp)] at h1 h2 h3 h4 h5 h6
  obtain ⟨cfg, e0⟩ := openConfig h0
  obtain ⟨A1, fs, k1, e1, r1, _, l1⟩ := open_rowG (α := DFilter) (en := DFilter.cs) (Q := fun _ => True) DFilter.cs_len (by omega) Try.underlying24 cellsFi (fun _ _ _ h => by obtain ⟨f, rfl⟩ := openFilter h; exact ⟨f, rfl, trivial⟩) h1
  obtain ⟨A2, bs, k2, e2, r2, q2, l2⟩ := open_rowG (α := LBox) (en := LBox.cs) (Q := fun y => FrameR False W y.f ∧ y.f.data.length ≤ 9223372036854775807) LBox.cs_len (by omega) Try.underlying25 cellsBo (fun _ _ _ h => openBox h) h2
  obtain ⟨A3, qs, k3, e3, r3, q3, l3⟩ := open_rowG (α := LFrame) (en := LFrame.cs) (Q := fun y => FrameR False W y ∧ y.data.length ≤ 9223372036854775807) LFrame.cs_len (by omega) Try.underlying26 cellsFr (fun _ _ _ h => openFrame h) h3
  obtain ⟨A4, es, k4, e4, r4, q4, l4⟩ := open_rowG (α := LEvent) (en := LEvent.cs) (Q := fun y => FrameR False W y.f ∧ y.f.data.length ≤ 9223372036854775807) LEvent.cs_len (by omega) Try.underlying27 cellsEv (fun _ _ _ h => openEvent h) h4
  obtain ⟨b5, e5, _, _⟩ := DataW.trod_int Try.underlying3 h5
  obtain ⟨b6, e6, _, _⟩ := DataW.trod_int Try.underlying3 h6
  simp at e0 e1 e2 e3 e4 e5 e6
  obtain ⟨g0, g1, g2, g3⟩ := e0
  subst g0 g1 g2 g3 e1 e2 e3 e4 e5 e6
  exact ⟨⟨cfg, A1, k1, fs, A2, k2, bs, A3, k3, qs, A4, k4, es, b5, b6⟩, rfl, ⟨r1, ⟨r2, fun x hx => (q2 x hx).1⟩, ⟨r3, fun x hx => (q3 x hx).1⟩, ⟨r4, fun x hx => (q4 x hx).1⟩⟩, l1, l2, l3, l4, fun x hx => (q2 x hx).2, fun x hx => (q3 x hx).2, fun x hx => (q4 x hx).2⟩
end Go.Proofs.Ytcfhjmflnochcaa
