/-
  Plain data of the program, how it lies in memory, and small lemmas on memory.
-/
import Derived.Test.YtcfhjmflnochcaaProg
import Derived.WalkKit
import Derived.KernelRfl
import Derived.Deep.LoopGhost
import Derived.Deep.QuietTactic
import Derived.BigQuiet
import Derived.Deep.RegionHeld3
import Derived.Maps.AppendAt
import Derived.StillTailTactics
set_option linter.unusedVariables false
set_option linter.unusedSimpArgs false
namespace Go.Proofs.Ytcfhjmflnochcaa
open Go.RowKit
variable {p q : Prop}

/-! ### plain data -/
structure DFrame where
  ext : Bool
  id : Int
  rtr : Bool
  dlc : Int
  data : List Int
  deriving DecidableEq
structure DBox where
  state : Int
  tag : Int
  stamp : Int
  f : DFrame
  deriving DecidableEq
structure DEvent where
  kind : Int
  a : Int
  b : Int
  f : DFrame
  deriving DecidableEq
structure DFilter where
  ext : Bool
  mask : Int
  mtch : Int
  deriving DecidableEq
structure DConfig where
  boxes : Int
  fifo : Int
  policy : Int
  events : Int
  deriving DecidableEq
structure DHost where
  cfg : DConfig
  filters : List DFilter
  boxes : List DBox
  fifo : List DFrame
  queue : List DEvent
  lost : Int
  stamp : Int
  deriving DecidableEq

/-! ### the same, with the places of slices -/
structure LFrame where
  ext : Bool
  id : Int
  rtr : Bool
  dlc : Int
  A : Option Addr
  cap : Nat
  data : List Int
def LFrame.d (f : LFrame) : DFrame := ⟨f.ext, f.id, f.rtr, f.dlc, f.data⟩
structure LBox where
  state : Int
  tag : Int
  stamp : Int
  f : LFrame
def LBox.d (b : LBox) : DBox := ⟨b.state, b.tag, b.stamp, b.f.d⟩
structure LEvent where
  kind : Int
  a : Int
  b : Int
  f : LFrame
def LEvent.d (e : LEvent) : DEvent := ⟨e.kind, e.a, e.b, e.f.d⟩
structure LHost where
  cfg : DConfig
  fA : Option Addr
  fc : Nat
  filters : List DFilter
  bA : Option Addr
  bc : Nat
  boxes : List LBox
  qA : Option Addr
  qc : Nat
  fifo : List LFrame
  eA : Option Addr
  ec : Nat
  queue : List LEvent
  lost : Int
  stamp : Int
def LHost.d (h : LHost) : DHost := ⟨h.cfg, h.filters, h.boxes.map LBox.d, h.fifo.map LFrame.d, h.queue.map LEvent.d, h.lost, h.stamp⟩

def cByte (x : Int) : List Value := [.int .u8 x]
def LFrame.cs (f : LFrame) : List Value := [.bool f.ext, .int .u32 f.id, .bool f.rtr, .int .i64 f.dlc, .slice f.A f.data.length f.cap]
def LBox.cs (b : LBox) : List Value := [.int .i64 b.state, .int .i64 b.tag, .int .i64 b.stamp, .bool b.f.ext, .int .u32 b.f.id, .bool b.f.rtr, .int .i64 b.f.dlc, .slice b.f.A b.f.data.length b.f.cap]
def LEvent.cs (e : LEvent) : List Value := [.int .i64 e.kind, .int .i64 e.a, .int .i64 e.b, .bool e.f.ext, .int .u32 e.f.id, .bool e.f.rtr, .int .i64 e.f.dlc, .slice e.f.A e.f.data.length e.f.cap]
def DFilter.cs (f : DFilter) : List Value := [.bool f.ext, .int .u32 f.mask, .int .u32 f.mtch]
def LHost.cs (h : LHost) : List Value := [.int .i64 h.cfg.boxes, .int .i64 h.cfg.fifo, .int .i64 h.cfg.policy, .int .i64 h.cfg.events, .slice h.fA h.filters.length h.fc, .slice h.bA h.boxes.length h.bc, .slice h.qA h.fifo.length h.qc, .slice h.eA h.queue.length h.ec, .int .i64 h.lost, .int .i64 h.stamp]

/-! ### rows of cells -/
/-- From place A on lie the cells cs, in a block of elements of type e. -/
def Cells (p : Prop) (w : World) (e : TypeId) (A : Option Addr) (cs : List Value) : Prop :=
  cs = [] ∨ ∃ g off all e' fr, A = some ⟨g, off, none⟩ ∧ w.heap[g]? = some (.cells all e' fr) ∧ (p → e' = e ∧ fr = (0, 0)) ∧ ∀ i, i < cs.length → all[off + i]? = cs[i]?

theorem cell_of_heap {w : World} {g : Nat} {all : Array Value} {e : TypeId} {fr : Nat × Nat} (h : w.heap[g]? = some (.cells all e fr)) (i : Nat) : w.cell? ⟨g, i, none⟩ = all[i]? := by
  simp [World.cell?, h]
theorem lt_of_heap {w : World} {g : Nat} {o : Obj} (h : w.heap[g]? = some o) : g < w.heap.size := (Array.getElem?_eq_some_iff.1 h).1

theorem Cells.nil (w : World) (e : TypeId) (A : Option Addr) : Cells p w e A [] := .inl rfl
theorem Cells.get {w : World} {e : TypeId} {A : Option Addr} {cs : List Value} (h : Cells p w e A cs) (hn : 0 < cs.length) :
    ∃ g off, A = some ⟨g, off, none⟩ ∧ g < w.heap.size ∧ ∀ i, i < cs.length → w.cell? ⟨g, off + i, none⟩ = cs[i]? := by
  rcases h with rfl | ⟨g, off, all, e', fr, rfl, hb, hf, hc⟩
  · simp at hn
  · exact ⟨g, off, rfl, lt_of_heap hb, fun i hi => by rw [cell_of_heap hb]; exact hc i hi⟩
/-- What keeps the block keeps the row. -/
theorem Cells.keep {w w' : World} {e : TypeId} {A : Option Addr} {cs : List Value} (h : Cells p w e A cs)
    (hk : ∀ g off, A = some ⟨g, off, none⟩ → g < w.heap.size → (∃ all e' fr, w.heap[g]? = some (.cells all e' fr) ∧ (p → e' = e)) → w'.heap[g]? = w.heap[g]?) : Cells p w' e A cs := by
  rcases h with rfl | ⟨g, off, all, e', fr, rfl, hb, hf, hc⟩
  · exact .inl rfl
  · exact .inr ⟨g, off, all, e', fr, rfl, (hk g off rfl (lt_of_heap hb) ⟨all, e', fr, hb, fun h => (hf h).1⟩).trans hb, hf, hc⟩
theorem Cells.below {w w' : World} {e : TypeId} {A : Option Addr} {cs : List Value} (h : Cells p w e A cs) (hb : Below w.heap.size w w') : Cells p w' e A cs :=
  h.keep fun g _ _ hg _ => hb.block g hg
theorem Cells.take {w : World} {e : TypeId} {A : Option Addr} {cs : List Value} (h : Cells p w e A cs) (n : Nat) : Cells p w e A (cs.take n) := by
  rcases h with rfl | ⟨g, off, all, e', fr, rfl, hb, hf, hc⟩
  · exact .inl (by simp)
  · refine .inr ⟨g, off, all, e', fr, rfl, hb, hf, fun i hi => ?_⟩
    have h1 : i < n ∧ i < cs.length := by simp at hi; omega
    rw [hc i h1.2, List.getElem?_take, if_pos h1.1]

/-! ### rows of elements -/
theorem flatMap_len {α : Type} {enc : α → List Value} {sz : Nat} (he : ∀ x, (enc x).length = sz) : ∀ xs : List α, (xs.flatMap enc).length = xs.length * sz
  | [] => by simp
  | x :: xs => by simp [he, flatMap_len he xs, Nat.add_mul, Nat.add_comm]
theorem flatMap_get {α : Type} {enc : α → List Value} {sz : Nat} (he : ∀ x, (enc x).length = sz) : ∀ (xs : List α) (k i : Nat) (hk : k < xs.length), i < sz → (xs.flatMap enc)[k * sz + i]? = (enc xs[k])[i]?
  | [], k, i, hk, _ => by simp at hk
  | x :: xs, 0, i, _, hi => by
    simp only [List.flatMap_cons, Nat.zero_mul, Nat.zero_add, List.getElem_cons_zero]
    rw [List.getElem?_append_left (by rw [he]; exact hi)]
  | x :: xs, k + 1, i, hk, hi => by
    simp only [List.flatMap_cons, List.getElem_cons_succ]
    have h1 : (enc x).length ≤ (k + 1) * sz + i := by rw [he, Nat.add_mul]; omega
    rw [List.getElem?_append_right h1, he]
    have h2 : (k + 1) * sz + i - sz = k * sz + i := by rw [Nat.add_mul]; omega
    rw [h2]
    exact flatMap_get he xs k i (by simpa using hk) hi

/-- Element k of a row: its cells. -/
theorem Cells.elem {α : Type} {enc : α → List Value} {sz : Nat} (he : ∀ x, (enc x).length = sz) (hs : 0 < sz) {w : World} {e : TypeId} {A : Option Addr} {xs : List α} (h : Cells p w e A (xs.flatMap enc)) (k : Nat) (hk : k < xs.length) :
    ∃ g off, A = some ⟨g, off, none⟩ ∧ g < w.heap.size ∧ ∀ i, i < sz → w.cell? ⟨g, off + k * sz + i, none⟩ = (enc xs[k])[i]? := by
  have hl : k * sz + sz ≤ (xs.flatMap enc).length := by rw [flatMap_len he, ← Nat.succ_mul]; exact Nat.mul_le_mul_right _ hk
  obtain ⟨g, off, rfl, hg, hc⟩ := h.get (by omega)
  refine ⟨g, off, rfl, hg, fun i hi => ?_⟩
  rw [Nat.add_assoc, hc _ (by omega), flatMap_get he xs k i hk hi]

theorem LFrame.cs_len (f : LFrame) : f.cs.length = 5 := rfl
theorem LBox.cs_len (b : LBox) : b.cs.length = 8 := rfl
theorem LEvent.cs_len (b : LEvent) : b.cs.length = 8 := rfl
theorem DFilter.cs_len (b : DFilter) : b.cs.length = 3 := rfl
theorem cByte_len (b : Int) : (cByte b).length = 1 := rfl

structure ByteAt (w : World) (g o : Nat) (b : Int) : Prop where
  c0 : w.cell? ⟨g, o, none⟩ = some (.int .u8 b)
structure FilterAt (w : World) (g o : Nat) (b : DFilter) : Prop where
  c0 : w.cell? ⟨g, o, none⟩ = some (.bool b.ext)
  c1 : w.cell? ⟨g, o + 1, none⟩ = some (.int .u32 b.mask)
  c2 : w.cell? ⟨g, o + 2, none⟩ = some (.int .u32 b.mtch)
structure FrameAt (w : World) (g o : Nat) (f : LFrame) : Prop where
  c0 : w.cell? ⟨g, o, none⟩ = some (.bool f.ext)
  c1 : w.cell? ⟨g, o + 1, none⟩ = some (.int .u32 f.id)
  c2 : w.cell? ⟨g, o + 2, none⟩ = some (.bool f.rtr)
  c3 : w.cell? ⟨g, o + 3, none⟩ = some (.int .i64 f.dlc)
  c4 : w.cell? ⟨g, o + 4, none⟩ = some (.slice f.A f.data.length f.cap)
structure BoxAt (w : World) (g o : Nat) (b : LBox) : Prop where
  c0 : w.cell? ⟨g, o, none⟩ = some (.int .i64 b.state)
  c1 : w.cell? ⟨g, o + 1, none⟩ = some (.int .i64 b.tag)
  c2 : w.cell? ⟨g, o + 2, none⟩ = some (.int .i64 b.stamp)
  c3 : w.cell? ⟨g, o + 3, none⟩ = some (.bool b.f.ext)
  c4 : w.cell? ⟨g, o + 4, none⟩ = some (.int .u32 b.f.id)
  c5 : w.cell? ⟨g, o + 5, none⟩ = some (.bool b.f.rtr)
  c6 : w.cell? ⟨g, o + 6, none⟩ = some (.int .i64 b.f.dlc)
  c7 : w.cell? ⟨g, o + 7, none⟩ = some (.slice b.f.A b.f.data.length b.f.cap)
structure EventAt (w : World) (g o : Nat) (b : LEvent) : Prop where
  c0 : w.cell? ⟨g, o, none⟩ = some (.int .i64 b.kind)
  c1 : w.cell? ⟨g, o + 1, none⟩ = some (.int .i64 b.a)
  c2 : w.cell? ⟨g, o + 2, none⟩ = some (.int .i64 b.b)
  c3 : w.cell? ⟨g, o + 3, none⟩ = some (.bool b.f.ext)
  c4 : w.cell? ⟨g, o + 4, none⟩ = some (.int .u32 b.f.id)
  c5 : w.cell? ⟨g, o + 5, none⟩ = some (.bool b.f.rtr)
  c6 : w.cell? ⟨g, o + 6, none⟩ = some (.int .i64 b.f.dlc)
  c7 : w.cell? ⟨g, o + 7, none⟩ = some (.slice b.f.A b.f.data.length b.f.cap)

theorem byteAt {w : World} {e : TypeId} {A : Option Addr} {xs : List Int} (h : Cells p w e A (xs.flatMap cByte)) (k : Nat) (hk : k < xs.length) :
    ∃ g off, A = some ⟨g, off, none⟩ ∧ g < w.heap.size ∧ ByteAt w g (off + k) xs[k] := by
  obtain ⟨g, off, rfl, hg, hc⟩ := h.elem cByte_len (by omega) k hk
  exact ⟨g, off, rfl, hg, ⟨by simpa [cByte] using hc 0 (by omega)⟩⟩
theorem filterAt {w : World} {e : TypeId} {A : Option Addr} {xs : List DFilter} (h : Cells p w e A (xs.flatMap DFilter.cs)) (k : Nat) (hk : k < xs.length) :
    ∃ g off, A = some ⟨g, off, none⟩ ∧ g < w.heap.size ∧ FilterAt w g (off + k * 3) xs[k] := by
  obtain ⟨g, off, rfl, hg, hc⟩ := h.elem DFilter.cs_len (by omega) k hk
  exact ⟨g, off, rfl, hg, ⟨hc 0 (by omega), hc 1 (by omega), hc 2 (by omega)⟩⟩
theorem frameAt {w : World} {e : TypeId} {A : Option Addr} {xs : List LFrame} (h : Cells p w e A (xs.flatMap LFrame.cs)) (k : Nat) (hk : k < xs.length) :
    ∃ g off, A = some ⟨g, off, none⟩ ∧ g < w.heap.size ∧ FrameAt w g (off + k * 5) xs[k] := by
  obtain ⟨g, off, rfl, hg, hc⟩ := h.elem LFrame.cs_len (by omega) k hk
  exact ⟨g, off, rfl, hg, ⟨hc 0 (by omega), hc 1 (by omega), hc 2 (by omega), hc 3 (by omega), hc 4 (by omega)⟩⟩
theorem boxAt {w : World} {e : TypeId} {A : Option Addr} {xs : List LBox} (h : Cells p w e A (xs.flatMap LBox.cs)) (k : Nat) (hk : k < xs.length) :
    ∃ g off, A = some ⟨g, off, none⟩ ∧ g < w.heap.size ∧ BoxAt w g (off + k * 8) xs[k] := by
  obtain ⟨g, off, rfl, hg, hc⟩ := h.elem LBox.cs_len (by omega) k hk
  exact ⟨g, off, rfl, hg, ⟨hc 0 (by omega), hc 1 (by omega), hc 2 (by omega), hc 3 (by omega), hc 4 (by omega), hc 5 (by omega), hc 6 (by omega), hc 7 (by omega)⟩⟩
theorem eventAt {w : World} {e : TypeId} {A : Option Addr} {xs : List LEvent} (h : Cells p w e A (xs.flatMap LEvent.cs)) (k : Nat) (hk : k < xs.length) :
    ∃ g off, A = some ⟨g, off, none⟩ ∧ g < w.heap.size ∧ EventAt w g (off + k * 8) xs[k] := by
  obtain ⟨g, off, rfl, hg, hc⟩ := h.elem LEvent.cs_len (by omega) k hk
  exact ⟨g, off, rfl, hg, ⟨hc 0 (by omega), hc 1 (by omega), hc 2 (by omega), hc 3 (by omega), hc 4 (by omega), hc 5 (by omega), hc 6 (by omega), hc 7 (by omega)⟩⟩

/-! ### what is read -/
def BytesR (p : Prop) (w : World) (A : Option Addr) (xs : List Int) : Prop := Cells p w 5 A (xs.flatMap cByte)
def FrameR (p : Prop) (w : World) (f : LFrame) : Prop := BytesR p w f.A f.data
def FramesR (p : Prop) (w : World) (e : TypeId) (A : Option Addr) (xs : List LFrame) : Prop := Cells p w e A (xs.flatMap LFrame.cs) ∧ ∀ x ∈ xs, FrameR p w x
def BoxesR (p : Prop) (w : World) (e : TypeId) (A : Option Addr) (xs : List LBox) : Prop := Cells p w e A (xs.flatMap LBox.cs) ∧ ∀ x ∈ xs, FrameR p w x.f
def EventsR (p : Prop) (w : World) (e : TypeId) (A : Option Addr) (xs : List LEvent) : Prop := Cells p w e A (xs.flatMap LEvent.cs) ∧ ∀ x ∈ xs, FrameR p w x.f
/-- A host whose rows are of the element types tf (filters), tb (boxes), tq (frames), te (events). -/
structure HostR (p : Prop) (tf tb tq te : TypeId) (w : World) (h : LHost) : Prop where
  f : Cells p w tf h.fA (h.filters.flatMap DFilter.cs)
  b : BoxesR p w tb h.bA h.boxes
  q : FramesR p w tq h.qA h.fifo
  e : EventsR p w te h.eA h.queue

theorem BytesR.below {w w' : World} {A : Option Addr} {xs : List Int} (h : BytesR p w A xs) (hb : Below w.heap.size w w') : BytesR p w' A xs := Cells.below h hb
theorem FrameR.below {w w' : World} {f : LFrame} (h : FrameR p w f) (hb : Below w.heap.size w w') : FrameR p w' f := Cells.below h hb
theorem FramesR.below {w w' : World} {e : TypeId} {A : Option Addr} {xs : List LFrame} (h : FramesR p w e A xs) (hb : Below w.heap.size w w') : FramesR p w' e A xs := ⟨h.1.below hb, fun x hx => (h.2 x hx).below hb⟩
theorem BoxesR.below {w w' : World} {e : TypeId} {A : Option Addr} {xs : List LBox} (h : BoxesR p w e A xs) (hb : Below w.heap.size w w') : BoxesR p w' e A xs := ⟨h.1.below hb, fun x hx => (h.2 x hx).below hb⟩
theorem EventsR.below {w w' : World} {e : TypeId} {A : Option Addr} {xs : List LEvent} (h : EventsR p w e A xs) (hb : Below w.heap.size w w') : EventsR p w' e A xs := ⟨h.1.below hb, fun x hx => (h.2 x hx).below hb⟩
theorem HostR.below {tf tb tq te : TypeId} {w w' : World} {h : LHost} (H : HostR p tf tb tq te w h) (hb : Below w.heap.size w w') : HostR p tf tb tq te w' h := ⟨H.f.below hb, H.b.below hb, H.q.below hb, H.e.below hb⟩

theorem bl_drewN {B : Nat} {a w : World} (h : Below B a w) (n : Nat) : Below B a (w.drewN n) := ⟨h.os, h.tape, h.output, h.size, h.block⟩
theorem bl_alloc {w W : World} (h : Below w.heap.size w W) (o : Obj) : Below w.heap.size w (W.alloc o) := h.alloc h.size o
theorem bl_set {w W : World} (h : Below w.heap.size w W) {p : Addr} (hp : w.heap.size ≤ p.block) (u : Value) : Below w.heap.size w (W.setCell p u) := h.setCell hp u
theorem bl_then {w w1 w2 : World} (h : Below w.heap.size w w1) (k : Below w1.heap.size w1 w2) : Below w.heap.size w w2 := h.trans (k.mono h.size)

end Go.Proofs.Ytcfhjmflnochcaa
