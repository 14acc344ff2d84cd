/-
  A host that grows: one box, frame or event more.
-/
import Derived.Test.YtcfhjmflnochcaaSideP
set_option linter.unusedVariables false
set_option linter.unusedSimpArgs false
namespace Go.Proofs.Ytcfhjmflnochcaa
open Go.RowKit
variable {p q : Prop}

section
variable {B : Nat → Prop} {W w2 : World} {y : LHost} {A2 : Option Addr} {c2 n : Nat}
theorem OwnHost.snocB (H : OwnHost B W y) (z : LBox) (ho : w2.ownsRow 0 98 8 (.slice A2 (y.boxes.length + 1) c2) (y.boxes.length + 1) (y.boxes.flatMap LBox.cs ++ z.cs)) (hg : W.grownBy w2 (Value.slice y.bA y.boxes.length y.bc).ownBlock)
    (hl : (Value.slice A2 (y.boxes.length + 1) c2).ownBlock = (Value.slice y.bA y.boxes.length y.bc).ownBlock ∨ (Value.slice A2 (y.boxes.length + 1) c2).ownBlock = some n) (hn : B n) (hR : FrameR True W z.f) (hI : ∀ a, z.f.A = some a → B a.block ∧ a.block < W.heap.size) :
    OwnHost B w2 { y with boxes := y.boxes ++ [z], bA := A2, bc := c2 } :=
  ⟨H.f.grown hg H.b.own (by decide) (by decide), H.b.snoc z ho hg hl hn (by decide) hR hI, H.q.grown hg H.b.own (by decide) (by decide), H.e.grown hg H.b.own (by decide) (by decide)⟩
theorem OwnHost.snocF (H : OwnHost B W y) (z : LFrame) (ho : w2.ownsRow 0 49 5 (.slice A2 (y.fifo.length + 1) c2) (y.fifo.length + 1) (y.fifo.flatMap LFrame.cs ++ z.cs)) (hg : W.grownBy w2 (Value.slice y.qA y.fifo.length y.qc).ownBlock)
    (hl : (Value.slice A2 (y.fifo.length + 1) c2).ownBlock = (Value.slice y.qA y.fifo.length y.qc).ownBlock ∨ (Value.slice A2 (y.fifo.length + 1) c2).ownBlock = some n) (hn : B n) (hR : FrameR True W z) (hI : ∀ a, z.A = some a → B a.block ∧ a.block < W.heap.size) :
    OwnHost B w2 { y with fifo := y.fifo ++ [z], qA := A2, qc := c2 } :=
  ⟨H.f.grown hg H.q.own (by decide) (by decide), H.b.grown hg H.q.own (by decide) (by decide), H.q.snoc z ho hg hl hn (by decide) hR hI, H.e.grown hg H.q.own (by decide) (by decide)⟩
theorem OwnHost.snocE (H : OwnHost B W y) (z : LEvent) (ho : w2.ownsRow 0 95 8 (.slice A2 (y.queue.length + 1) c2) (y.queue.length + 1) (y.queue.flatMap LEvent.cs ++ z.cs)) (hg : W.grownBy w2 (Value.slice y.eA y.queue.length y.ec).ownBlock)
    (hl : (Value.slice A2 (y.queue.length + 1) c2).ownBlock = (Value.slice y.eA y.queue.length y.ec).ownBlock ∨ (Value.slice A2 (y.queue.length + 1) c2).ownBlock = some n) (hn : B n) (hR : FrameR True W z.f) (hI : ∀ a, z.f.A = some a → B a.block ∧ a.block < W.heap.size) :
    OwnHost B w2 { y with queue := y.queue ++ [z], eA := A2, ec := c2 } :=
  ⟨H.f.grown hg H.e.own (by decide) (by decide), H.b.grown hg H.e.own (by decide) (by decide), H.q.grown hg H.e.own (by decide) (by decide), H.e.snoc z ho hg hl hn (by decide) hR hI⟩
end

/-- All the host's data lies below n. -/
structure DataLt (n : Nat) (h : LHost) : Prop where
  b : ∀ x ∈ h.boxes, ∀ a, x.f.A = some a → a.block < n
  q : ∀ x ∈ h.fifo, ∀ a, x.A = some a → a.block < n
  e : ∀ x ∈ h.queue, ∀ a, x.f.A = some a → a.block < n
theorem OwnHost.dataLt {B : Nat → Prop} {w : World} {x : LHost} (h : OwnHost B w x) : DataLt w.heap.size x := ⟨fun y hy a ha => (h.b.I y hy a ha).2, fun y hy a ha => (h.q.I y hy a ha).2, fun y hy a ha => (h.e.I y hy a ha).2⟩
theorem ap_snoc {α : Type} {f : α → Option Addr} {xs : List α} {y : α} {n : Nat} (h : Ap f xs) (hx : ∀ x ∈ xs, ∀ a, f x = some a → a.block < n) (hy : ∀ a, f y = some a → n ≤ a.block) : Ap f (xs ++ [y]) := by
  unfold Ap
  rw [List.pairwise_append]
  refine ⟨h, by simp, fun a ha b hb p q hp hq => ?_⟩
  have hb := List.mem_singleton.1 hb
  subst hb
  have := hx a ha p hp
  have := hy q hq
  omega
theorem HostAp.snocB {y : LHost} {n : Nat} (h : HostAp y) (hd : DataLt n y) (z : LBox) (hz : ∀ a, z.f.A = some a → n ≤ a.block) (A : Option Addr) (c : Nat) : HostAp { y with boxes := y.boxes ++ [z], bA := A, bc := c } := by
  refine ⟨ap_snoc h.b hd.b hz, h.q, h.e, fun x hx u hu a b ha hb => ?_, fun x hx u hu a b ha hb => ?_, h.qe⟩
  · rcases List.mem_append.1 hx with hx | hx
    · exact h.bq x hx u hu a b ha hb
    · have hx := List.mem_singleton.1 hx
      subst hx
      have := hz a ha
      have := hd.q u hu b hb
      omega
  · rcases List.mem_append.1 hx with hx | hx
    · exact h.be x hx u hu a b ha hb
    · have hx := List.mem_singleton.1 hx
      subst hx
      have := hz a ha
      have := hd.e u hu b hb
      omega
theorem HostAp.snocF {y : LHost} {n : Nat} (h : HostAp y) (hd : DataLt n y) (z : LFrame) (hz : ∀ a, z.A = some a → n ≤ a.block) (A : Option Addr) (c : Nat) : HostAp { y with fifo := y.fifo ++ [z], qA := A, qc := c } := by
  refine ⟨h.b, ap_snoc h.q hd.q hz, h.e, fun x hx u hu a b ha hb => ?_, h.be, fun x hx u hu a b ha hb => ?_⟩
  · rcases List.mem_append.1 hu with hu | hu
    · exact h.bq x hx u hu a b ha hb
    · have hu := List.mem_singleton.1 hu
      subst hu
      have := hz b hb
      have := hd.b x hx a ha
      omega
  · rcases List.mem_append.1 hx with hx | hx
    · exact h.qe x hx u hu a b ha hb
    · have hx := List.mem_singleton.1 hx
      subst hx
      have := hz a ha
      have := hd.e u hu b hb
      omega
theorem HostAp.snocE {y : LHost} {n : Nat} (h : HostAp y) (hd : DataLt n y) (z : LEvent) (hz : ∀ a, z.f.A = some a → n ≤ a.block) (A : Option Addr) (c : Nat) : HostAp { y with queue := y.queue ++ [z], eA := A, ec := c } := by
  refine ⟨h.b, h.q, ap_snoc h.e hd.e hz, h.bq, fun x hx u hu a b ha hb => ?_, fun x hx u hu a b ha hb => ?_⟩
  · rcases List.mem_append.1 hu with hu | hu
    · exact h.be x hx u hu a b ha hb
    · have hu := List.mem_singleton.1 hu
      subst hu
      have := hz b hb
      have := hd.b x hx a ha
      omega
  · rcases List.mem_append.1 hu with hu | hu
    · exact h.qe x hx u hu a b ha hb
    · have hu := List.mem_singleton.1 hu
      subst hu
      have := hz b hb
      have := hd.q x hx a ha
      omega
def host0 (x : LHost) (A : Option Addr) (c : Nat) : LHost := ⟨x.cfg, A, c, x.filters, none, 0, [], none, 0, [], none, 0, [], x.lost, x.stamp⟩
theorem host0_d (x : LHost) (A : Option Addr) (c : Nat) : (host0 x A c).d = { x.d with boxes := x.d.boxes.take 0, fifo := x.d.fifo.take 0, queue := x.d.queue.take 0 } := by simp [host0, LHost.d]
theorem one_filters (xs : List DFilter) : ∀ u ∈ xs.flatMap DFilter.cs, u.oneCell' = true := fun u hu => by
  obtain ⟨y, _, hy⟩ := List.mem_flatMap.1 hu
  exact one_filter y u hy
end Go.Proofs.Ytcfhjmflnochcaa
