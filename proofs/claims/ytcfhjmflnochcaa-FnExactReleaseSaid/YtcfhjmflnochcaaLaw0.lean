/-
  What all three laws need: sizes, sums and places of hosts.
-/
import Derived.Test.YtcfhjmflnochcaaRelI
import Derived.Test.YtcfhjmflnochcaaOpen
import Derived.Test.YtcfhjmflnochcaaTo
import Derived.Test.YtcfhjmflnochcaaEq
import Derived.Test.YtcfhjmflnochcaaSz
import Derived.Test.YtcfhjmflnochcaaHeldHost
set_option linter.unusedVariables false
set_option linter.unusedSimpArgs false
namespace Go.Proofs.Ytcfhjmflnochcaa
open Go.RowKit
variable {p q : Prop}

theorem inBlk_in {n m : Nat} {A : Option Addr} {k b : Nat} (h : inBlk A k b) (G : InA n m A) : n ≤ b ∧ b < m := by
  obtain ⟨_, a, rfl, rfl⟩ := h
  exact G a rfl
theorem hBlk_in {n m : Nat} {h : LHost} (G : HostIn n m h) {b : Nat} (hb : hBlk h b) : n ≤ b ∧ b < m := by
  rcases hb with hb | hb | hb | hb
  · exact inBlk_in hb G.f
  · rcases hb with hb | ⟨x, hx, hb⟩
    · exact inBlk_in hb G.b
    · exact inBlk_in hb (G.bd x hx)
  · rcases hb with hb | ⟨x, hx, hb⟩
    · exact inBlk_in hb G.q
    · exact inBlk_in hb (G.qd x hx)
  · rcases hb with hb | ⟨x, hx, hb⟩
    · exact inBlk_in hb G.e
    · exact inBlk_in hb (G.ed x hx)
theorem hBlk_ty {w : World} {h : LHost} (H : IHostR True w h) {b : Nat} (hb : hBlk h b) : Ty w 102 b ∨ Ty w 98 b ∨ Ty w 49 b ∨ Ty w 95 b ∨ Ty w 5 b := by
  rcases hb with hb | hb | hb | hb
  · exact .inl (ty_in DFilter.cs_len (by omega) H.f hb)
  · rcases hb.ty H.b with h | h
    · exact .inr (.inl h)
    · exact .inr (.inr (.inr (.inr h)))
  · rcases hb.ty H.q with h | h
    · exact .inr (.inr (.inl h))
    · exact .inr (.inr (.inr (.inr h)))
  · rcases hb.ty H.e with h | h
    · exact .inr (.inr (.inr (.inl h)))
    · exact .inr (.inr (.inr (.inr h)))
def dSize (d : DHost) : Nat := d.filters.length + (d.boxes.length + dsum (fun x : DBox => x.f.data.length) d.boxes) + (d.fifo.length + dsum (fun x : DFrame => x.data.length) d.fifo) + (d.queue.length + dsum (fun x : DEvent => x.f.data.length) d.queue)
theorem hostSize_dSize (h : LHost) : hostSize h = dSize h.d := by
  unfold hostSize dSize dsum
  simp only [LHost.d, List.length_map, List.map_map]
  rfl
theorem dsum_add {α : Type} (c : Nat) (f : α → Nat) : ∀ xs : List α, dsum (fun x => c + f x) xs = c * xs.length + dsum f xs
  | [] => by simp [dsum]
  | x :: xs => by
    have := dsum_add c f xs
    simp only [dsum, List.map_cons, List.sum_cons, List.length_cons] at this ⊢
    rw [this, Nat.mul_succ]
    omega
theorem dsum_const {α : Type} (c : Nat) : ∀ xs : List α, dsum (fun _ => c) xs = c * xs.length
  | [] => by simp [dsum]
  | x :: xs => by
    have := dsum_const c xs
    simp only [dsum, List.map_cons, List.sum_cons, List.length_cons] at this ⊢
    rw [this, Nat.mul_succ]
    omega
theorem dsum_bound {α : Type} {f : α → Nat} {c : Nat} : ∀ {xs : List α}, (∀ x ∈ xs, f x ≤ c) → dsum f xs ≤ xs.length * c
  | [], _ => by simp [dsum]
  | x :: xs, h => by
    have h1 := dsum_bound (f := f) (c := c) (xs := xs) (fun y hy => h y (List.mem_cons_of_mem _ hy))
    have h2 := h x List.mem_cons_self
    simp only [dsum, List.map_cons, List.sum_cons, List.length_cons] at h1 ⊢
    rw [Nat.succ_mul]
    omega
theorem aFilter_sum (xs : List DFilter) : dsum aFilter xs = 3 * xs.length := dsum_const 3 xs
theorem aBox_sum (xs : List LBox) : dsum aBox xs = 7 * xs.length + dsum (fun x : LBox => x.f.data.length) xs := dsum_add 7 _ xs
theorem aFrame_sum (xs : List LFrame) : dsum aFrame xs = 4 * xs.length + dsum (fun x : LFrame => x.data.length) xs := dsum_add 4 _ xs
theorem aEvent_sum (xs : List LEvent) : dsum aEvent xs = 7 * xs.length + dsum (fun x : LEvent => x.f.data.length) xs := dsum_add 7 _ xs
theorem hostSum_of {h : LHost} (hs : hostSize h ≤ 1048576) : HostSum h := by
  unfold hostSize at hs
  exact ⟨by rw [aFilter_sum]; omega, by rw [aBox_sum]; omega, by rw [aFrame_sum]; omega, by rw [aEvent_sum]; omega⟩
/-- Few elements, of few bytes. -/
structure DHost.Small (d : DHost) : Prop where
  f : d.filters.length ≤ 32
  b : d.boxes.length ≤ 32
  q : d.fifo.length ≤ 32
  e : d.queue.length ≤ 32
  bd : ∀ b ∈ d.boxes, b.f.data.length ≤ 8
  qd : ∀ f ∈ d.fifo, f.data.length ≤ 8
  ed : ∀ e ∈ d.queue, e.f.data.length ≤ 8
theorem DHost.Bd.small {d : DHost} (h : d.Bd) : d.Small :=
  ⟨by have := h.nf; omega, by have := h.nb; omega, by have := h.nq; have := h.ff1; omega, by have := h.ne; have := h.ev1; omega, h.bd, h.qd, h.ed⟩
theorem DHost.small_zero : DHost.zero.Small := ⟨by simp [DHost.zero], by simp [DHost.zero], by simp [DHost.zero], by simp [DHost.zero], by simp [DHost.zero], by simp [DHost.zero], by simp [DHost.zero]⟩
theorem small_size {d : DHost} (h : d.Small) : dSize d ≤ 1048576 := by
  have h1 := dsum_bound (f := fun x : DBox => x.f.data.length) h.bd
  have h2 := dsum_bound (f := fun x : DFrame => x.data.length) h.qd
  have h3 := dsum_bound (f := fun x : DEvent => x.f.data.length) h.ed
  have := h.f; have := h.b; have := h.q; have := h.e
  unfold dSize
  omega
theorem small_host {x : LHost} (h : x.d.Small) : hostSize x ≤ 1048576 := by rw [hostSize_dSize]; exact small_size h
theorem releaseF_small (h : DHost) (sent : Bool) : (h.releaseF sent).Small := by
  unfold DHost.releaseF
  split
  · rename_i ok; exact (release_bd ok sent).small
  · exact DHost.small_zero
theorem LHost.mHost_d_fl (h : LHost) (k : Int) : (mHost h k).filters.length = h.filters.length := mHost_fl h k
end Go.Proofs.Ytcfhjmflnochcaa
