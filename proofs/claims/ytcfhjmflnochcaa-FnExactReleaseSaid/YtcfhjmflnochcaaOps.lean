/-
  What the host's operations do to plain data.
-/
import Derived.Test.YtcfhjmflnochcaaMod
set_option linter.unusedVariables false
set_option linter.unusedSimpArgs false
namespace Go.Proofs.Ytcfhjmflnochcaa

def DHost.post (h : DHost) (k a b : Int) (f : DFrame) : DHost :=
  if h.cfg.events ≤ (h.queue.length : Int) then { h with lost := if h.lost < 100000 then h.lost + 1 else h.lost }
  else { h with queue := h.queue ++ [⟨k, a, b, f⟩] }
def DBox.sending (b : DBox) : Bool := b.state == 2 || b.state == 3
/-- The place of the first that passes, or -1. -/
def firstIx {α : Type} (p : α → Bool) (xs : List α) : Int := match xs.findIdx? p with | some i => i | none => -1
theorem firstIx_some {α : Type} {p : α → Bool} {xs : List α} {k : Nat} (hk : k < xs.length) (h : p xs[k] = true) (h0 : ∀ j (hj : j < k), p (xs[j]'(by omega)) = false) : firstIx p xs = k := by
  have : xs.findIdx? p = some k := by
    rw [List.findIdx?_eq_some_iff_getElem]
    exact ⟨hk, h, fun j hj => by simp [h0 j hj]⟩
  unfold firstIx
  rw [this]
theorem firstIx_none {α : Type} {p : α → Bool} {xs : List α} (h : ∀ j (hj : j < xs.length), p xs[j] = false) : firstIx p xs = -1 := by
  have : xs.findIdx? p = none := by
    rw [List.findIdx?_eq_none_iff]
    intro x hx
    obtain ⟨j, hj, rfl⟩ := List.mem_iff_getElem.1 hx
    exact h j hj
  unfold firstIx
  rw [this]
theorem firstIx_cases {α : Type} (p : α → Bool) (xs : List α) : (firstIx p xs = -1 ∧ ∀ x ∈ xs, p x = false) ∨ ∃ k, ∃ hk : k < xs.length, firstIx p xs = k ∧ p xs[k] = true ∧ ∀ j (hj : j < k), p (xs[j]'(by omega)) = false := by
  unfold firstIx
  cases h : xs.findIdx? p with
  | none => exact .inl ⟨rfl, List.findIdx?_eq_none_iff.1 h⟩
  | some k =>
    rw [List.findIdx?_eq_some_iff_getElem] at h
    obtain ⟨hk, h1, h2⟩ := h
    exact .inr ⟨k, hk, rfl, h1, fun j hj => by simpa using h2 j hj⟩
def DHost.busy (h : DHost) : Int := firstIx DBox.sending h.boxes
def DHost.release (h : DHost) (sent : Bool) : DHost :=
  match h.boxes.findIdx? DBox.sending with
  | none => h
  | some i =>
    match h.boxes[i]? with
    | none => h
    | some b =>
      if sent then { h with boxes := h.boxes.set i DBox.zero }.post 1 b.tag 0 b.f
      else if b.state = 3 then { h with boxes := h.boxes.set i DBox.zero }.post 6 b.tag 0 DFrame.zero
      else { h with boxes := h.boxes.set i { b with state := 1 } }
theorem release_none {h : DHost} (sent : Bool) (hb : h.busy = -1) : h.release sent = h := by
  unfold DHost.busy firstIx at hb
  unfold DHost.release
  cases hf : h.boxes.findIdx? DBox.sending with
  | none => rfl
  | some i => rw [hf] at hb; simp at hb
theorem release_some {h : DHost} (sent : Bool) {i : Nat} (hi : i < h.boxes.length) (hb : h.busy = i) : h.release sent =
    if sent then { h with boxes := h.boxes.set i DBox.zero }.post 1 h.boxes[i].tag 0 h.boxes[i].f
      else if h.boxes[i].state = 3 then { h with boxes := h.boxes.set i DBox.zero }.post 6 h.boxes[i].tag 0 DFrame.zero
      else { h with boxes := h.boxes.set i { h.boxes[i] with state := 1 } } := by
  unfold DHost.busy firstIx at hb
  unfold DHost.release
  cases hf : h.boxes.findIdx? DBox.sending with
  | none => rw [hf] at hb; simp at hb
  | some k =>
    rw [hf] at hb
    have : k = i := by simp at hb; omega
    subst this
    simp [List.getElem?_eq_getElem hi]
end Go.Proofs.Ytcfhjmflnochcaa
