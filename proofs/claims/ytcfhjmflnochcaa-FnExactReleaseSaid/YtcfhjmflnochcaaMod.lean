/-
  What the host's functions compute, as plain functions of plain data: no program in sight.
-/
import Derived.Test.YtcfhjmflnochcaaLib
set_option linter.unusedVariables false
set_option linter.unusedSimpArgs false
namespace Go.Proofs.Ytcfhjmflnochcaa

def DFrame.zero : DFrame := ⟨false, 0, false, 0, []⟩
def DBox.zero : DBox := ⟨0, 0, 0, DFrame.zero⟩
def DHost.zero : DHost := ⟨⟨0, 0, 0, 0⟩, [], [], [], [], 0, 0⟩
def dataLen (rtr : Bool) (dlc : Int) : Int := if rtr then 0 else if 8 < dlc then 8 else dlc
def idTop (ext : Bool) : Int := if ext then 536870912 else 2048
structure DFrame.Ok (f : DFrame) : Prop where
  id : f.id < idTop f.ext
  lo : 0 ≤ f.dlc
  hi : f.dlc ≤ 15
  len : (f.data.length : Int) = dataLen f.rtr f.dlc
theorem DFrame.ok_iff (f : DFrame) : f.Ok ↔ f.id < idTop f.ext ∧ 0 ≤ f.dlc ∧ f.dlc ≤ 15 ∧ (f.data.length : Int) = dataLen f.rtr f.dlc := ⟨fun h => ⟨h.1, h.2, h.3, h.4⟩, fun h => ⟨h.1, h.2.1, h.2.2.1, h.2.2.2⟩⟩
instance (f : DFrame) : Decidable f.Ok := decidable_of_iff' _ f.ok_iff

def DConfig.Ok (c : DConfig) : Prop := 1 ≤ c.boxes ∧ c.boxes ≤ 8 ∧ 1 ≤ c.fifo ∧ c.fifo ≤ 16 ∧ (c.policy = 0 ∨ c.policy = 1) ∧ 1 ≤ c.events ∧ c.events ≤ 32
instance (c : DConfig) : Decidable c.Ok := by unfold DConfig.Ok; infer_instance
def DFilter.Ok (f : DFilter) : Prop := f.mask < idTop f.ext ∧ f.mtch < idTop f.ext
instance (f : DFilter) : Decidable f.Ok := by unfold DFilter.Ok; infer_instance
def FiltersOk (fs : List DFilter) : Prop := fs.length ≤ 16 ∧ ∀ f ∈ fs, f.Ok
instance (fs : List DFilter) : Decidable (FiltersOk fs) := by unfold FiltersOk; infer_instance

/-- A box by itself. -/
def DBox.Ok (st : Int) (b : DBox) : Prop :=
  if b.state = 0 then b.tag = 0 ∧ b.stamp = 0 ∧ b.f = DFrame.zero
  else 0 ≤ b.state ∧ b.state ≤ 3 ∧ 0 ≤ b.tag ∧ b.tag ≤ 9999 ∧ 0 ≤ b.stamp ∧ b.stamp < st ∧ b.f.Ok
instance (st : Int) (b : DBox) : Decidable (b.Ok st) := by unfold DBox.Ok; infer_instance
/-- Two boxes beside each other. -/
def Beside (x y : DBox) : Prop := x.state ≠ 0 → y.state ≠ 0 → x.tag ≠ y.tag ∧ x.stamp ≠ y.stamp
instance (x y : DBox) : Decidable (Beside x y) := by unfold Beside; infer_instance
def DBox.isBusy (b : DBox) : Bool := b.state != 0 && b.state != 1
def Boxes1 (st : Int) (bs : List DBox) : Prop := (∀ b ∈ bs, b.Ok st) ∧ bs.Pairwise Beside
instance (st : Int) (bs : List DBox) : Decidable (Boxes1 st bs) := by unfold Boxes1; infer_instance
def BoxesOk (st : Int) (bs : List DBox) : Prop := Boxes1 st bs ∧ bs.countP DBox.isBusy ≤ 1
instance (st : Int) (bs : List DBox) : Decidable (BoxesOk st bs) := by unfold BoxesOk; infer_instance
def DEvent.Ok (e : DEvent) : Prop := 1 ≤ e.kind ∧ e.kind ≤ 12 ∧ 0 ≤ e.a ∧ e.a ≤ 9999 ∧ 0 ≤ e.b ∧ e.b ≤ 9 ∧ (e.f = DFrame.zero ∨ e.f.Ok)
instance (e : DEvent) : Decidable e.Ok := by unfold DEvent.Ok; infer_instance
structure DHost.Ok (h : DHost) : Prop where
  cfg : h.cfg.Ok
  filters : FiltersOk h.filters
  nb : (h.boxes.length : Int) = h.cfg.boxes
  nq : (h.fifo.length : Int) ≤ h.cfg.fifo
  ne : (h.queue.length : Int) ≤ h.cfg.events
  l0 : 0 ≤ h.lost
  l1 : h.lost ≤ 100000
  s0 : 0 ≤ h.stamp
  s1 : h.stamp ≤ 1000000
  fifo : ∀ f ∈ h.fifo, f.Ok
  queue : ∀ e ∈ h.queue, e.Ok
  boxes : BoxesOk h.stamp h.boxes
theorem DHost.ok_iff (h : DHost) : h.Ok ↔ h.cfg.Ok ∧ FiltersOk h.filters ∧ (h.boxes.length : Int) = h.cfg.boxes ∧ (h.fifo.length : Int) ≤ h.cfg.fifo ∧ (h.queue.length : Int) ≤ h.cfg.events ∧ 0 ≤ h.lost ∧ h.lost ≤ 100000 ∧ 0 ≤ h.stamp ∧ h.stamp ≤ 1000000 ∧ (∀ f ∈ h.fifo, f.Ok) ∧ (∀ e ∈ h.queue, e.Ok) ∧ BoxesOk h.stamp h.boxes :=
  ⟨fun h => ⟨h.1, h.2, h.3, h.4, h.5, h.6, h.7, h.8, h.9, h.10, h.11, h.12⟩, fun ⟨h1, h2, h3, h4, h5, h6, h7, h8, h9, h10, h11, h12⟩ => ⟨h1, h2, h3, h4, h5, h6, h7, h8, h9, h10, h11, h12⟩⟩
instance (h : DHost) : Decidable h.Ok := decidable_of_iff' _ h.ok_iff

end Go.Proofs.Ytcfhjmflnochcaa
