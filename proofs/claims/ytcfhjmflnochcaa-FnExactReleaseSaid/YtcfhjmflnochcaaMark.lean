/-
  The marking and the holding functions of the laws: a marked row holds the marks, one behind the other.
-/
import Derived.Test.YtcfhjmflnochcaaSz
set_option linter.unusedVariables false
set_option linter.unusedSimpArgs false
namespace Go.Proofs.Ytcfhjmflnochcaa
open Go.RowKit
variable {p q : Prop}

def inBlk (A : Option Addr) (n b : Nat) : Prop := 0 < n ∧ ∃ a, A = some a ∧ a.block = b

theorem Cells.free {w : World} {e : TypeId} {g off : Nat} {cs : List Value} (h : Cells True w e (some ⟨g, off, none⟩) cs) (hn : 0 < cs.length) (i : Nat) : w.frozen? ⟨g, i, none⟩ = false := by
  rcases h with rfl | ⟨g', off', all, e', fr, hA, hb, hf, hc⟩
  · simp at hn
  · injection hA with hA; injection hA with h1 h2 h3
    subst h1
    obtain ⟨rfl, rfl⟩ := hf trivial
    exact frozen_at hb i
theorem Cells.put {w : World} {e : TypeId} {g off : Nat} {cs : List Value} (h : Cells True w e (some ⟨g, off, none⟩) cs) (i : Nat) (hi : i < cs.length) (v : Value) :
    Cells True (w.setCell ⟨g, off + i, none⟩ v) e (some ⟨g, off, none⟩) (cs.set i v) := by
  rcases h with rfl | ⟨g', off', all, e', fr, hA, hb, hf, hc⟩
  · simp at hi
  · injection hA with hA; injection hA with h1 h2 h3
    subst h1; subst h2
    refine .inr ⟨g, off, all.setIfInBounds (off + i) v, e', fr, rfl, heap_set hb rfl, hf, fun j hj => ?_⟩
    have hj' : j < cs.length := by simpa using hj
    by_cases e1 : i = j
    · subst e1
      have hs : off + i < all.size := by
        have h1 := hc i hj'
        rw [List.getElem?_eq_getElem hj'] at h1
        exact (Array.getElem?_eq_some_iff.1 h1).1
      rw [Array.getElem?_setIfInBounds_self_of_lt hs, List.getElem?_set_self hj']
    · rw [Array.getElem?_setIfInBounds_ne (by omega), List.getElem?_set_ne e1, hc j hj']
theorem flatMap_put {α : Type} {enc : α → List Value} {sz : Nat} (he : ∀ x, (enc x).length = sz) : ∀ (xs : List α) (k j : Nat) (hk : k < xs.length) (hj : j < sz) (v : Value) (y : α), enc y = (enc xs[k]).set j v → (xs.flatMap enc).set (k * sz + j) v = (xs.set k y).flatMap enc
  | [], k, j, hk, _, _, _, _ => by simp at hk
  | x :: xs, 0, j, _, hj, v, y, hy => by
    simp only [List.flatMap_cons, Nat.zero_mul, Nat.zero_add, List.set_cons_zero, List.getElem_cons_zero] at hy ⊢
    rw [List.set_append_left _ _ (by rw [he]; exact hj), hy]
  | x :: xs, k + 1, j, hk, hj, v, y, hy => by
    simp only [List.flatMap_cons, List.set_cons_succ, List.getElem_cons_succ] at hy ⊢
    have h1 : (enc x).length ≤ (k + 1) * sz + j := by rw [he, Nat.add_mul]; omega
    have h2 : (k + 1) * sz + j - (enc x).length = k * sz + j := by rw [he, Nat.add_mul]; omega
    rw [List.set_append_right _ _ h1, h2, flatMap_put he xs k j (by simpa using hk) hj v y hy]

def mB (n : Nat) (k : Int) : List Int := (List.range n).map fun i => IntKind.u8.wrap (k + (i : Nat))
theorem mB_len (n : Nat) (k : Int) : (mB n k).length = n := by simp [mB]
theorem mB_succ (n : Nat) (k : Int) : mB (n + 1) k = mB n k ++ [IntKind.u8.wrap (k + (n : Nat))] := by simp [mB, List.range_succ]
theorem mB_get (n : Nat) (k : Int) (i : Nat) (h : i < (mB n k).length) : (mB n k)[i] = IntKind.u8.wrap (k + (i : Nat)) := by simp [mB]

theorem markByteS_any (w : World) (A : Option Addr) (c : Nat) (xs : List Int) (k : Int) (k0 : 0 ≤ k) (k1 : k ≤ 4398046511104) (lx : xs.length ≤ 4194304) (hx : BytesR True w A xs) :
    Calls Try.prog 55 #[.slice A xs.length c, .int .i64 k] w fun e w' => e = .returned (.int .i64 (k + xs.length)) ∧ BytesR True w' A (mB xs.length k) ∧ Chg (inBlk A xs.length) w w' := by
  go_enter Try.func55, Try.ntmps55
  go_wp2_with fail
  go_loopw [1, 5] (fun l i wr => ∃ j : Nat, j ≤ xs.length ∧ i = .int .i64 j ∧ l = .int .i64 (k + j) ∧ Cells True wr 5 A ((mB j k ++ xs.drop j).flatMap cByte) ∧ Chg (inBlk A xs.length) w wr) (fun _ i _ => xs.length - (intOf i).toNat)
  case atStart => exact ⟨0, by omega, rfl, by simp, by simp only [mB, List.range_zero, List.map_nil, List.nil_append, List.drop_zero]; exact hx, Chg.refl _ _⟩
  case round =>
    clear hx
    obtain ⟨j, hj, rfl, rfl, hc, hb⟩ := hrel
    by_cases hlt : j < xs.length
    · have hl : j < (mB j k ++ xs.drop j).length := by rw [List.length_append, mB_len, List.length_drop]; omega
      obtain ⟨g, o, rfl, hg, ⟨e0⟩⟩ := byteAt hc j hl
      have hfl : ((mB j k ++ xs.drop j).flatMap cByte).length = xs.length := by rw [flatMap_len cByte_len, List.length_append, mB_len, List.length_drop]; omega
      have hf := hc.free (by omega) (o + j)
      have hc' := hc.put j (by omega) (.int .u8 (IntKind.u8.wrap (k + j)))
      have hb' := hb.set (p := ⟨g, o + j, none⟩) (fun _ => ⟨by omega, _, rfl, rfl⟩) (.int .u8 (IntKind.u8.wrap (k + j)))
      have hs : ((mB j k ++ xs.drop j).flatMap cByte).set j (.int .u8 (IntKind.u8.wrap (k + j))) = (mB (j + 1) k ++ xs.drop (j + 1)).flatMap cByte := by
        have h1 := flatMap_put cByte_len (mB j k ++ xs.drop j) j 0 hl (by omega) (.int .u8 (IntKind.u8.wrap (k + j))) (IntKind.u8.wrap (k + j)) rfl
        simp only [Nat.mul_one, Nat.add_zero] at h1
        rw [h1, mB_succ, List.drop_eq_getElem_cons hlt, List.set_append_right _ _ (by rw [mB_len]; omega), mB_len, Nat.sub_self, List.set_cons_zero, List.append_assoc, List.singleton_append]
      rw [hs] at hc'
      generalize (mB j k ++ xs.drop j)[j] = b0 at e0
      clear hs hc hfl hb hl
      go_wp2_with fail
      go_roundw
      case rel => exact ⟨j + 1, by omega, by go_num, by go_num, hc', hb'⟩
      case measure => simp [intOf]; omega
    · obtain rfl : j = xs.length := by omega
      rw [List.drop_length, List.append_nil] at hc
      go_wp2_with fail
      go_ret
      exact ⟨rfl, hc, hb⟩

/-! ### marks of rows of elements -/
def marks {α : Type} (m : α → Int → α) (adv : α → Nat) : List α → Int → List α
  | [], _ => []
  | x :: xs, k => m x k :: marks m adv xs (k + (adv x : Nat))
theorem marks_len {α : Type} {m : α → Int → α} {adv : α → Nat} : ∀ (xs : List α) (k : Int), (marks m adv xs k).length = xs.length
  | [], _ => rfl
  | x :: xs, k => by simp [marks, marks_len xs]
theorem marks_append {α : Type} {m : α → Int → α} {adv : α → Nat} : ∀ (xs ys : List α) (k : Int), marks m adv (xs ++ ys) k = marks m adv xs k ++ marks m adv ys (k + (dsum adv xs : Nat))
  | [], ys, k => by simp [marks, dsum]
  | x :: xs, ys, k => by
    simp only [List.cons_append, marks, marks_append xs ys, dsum, List.map_cons, List.sum_cons]
    congr 3
    push_cast
    omega
theorem marks_take {α : Type} {m : α → Int → α} {adv : α → Nat} {xs : List α} {j : Nat} (hj : j < xs.length) (k : Int) : marks m adv (xs.take (j + 1)) k = marks m adv (xs.take j) k ++ [m xs[j] (k + (dsum adv (xs.take j) : Nat))] := by
  rw [List.take_succ_eq_append_getElem hj, marks_append]; rfl
/-- What a row holds after j rounds. -/
def midway {α : Type} (m : α → Int → α) (adv : α → Nat) (xs : List α) (k : Int) (j : Nat) : List α := marks m adv (xs.take j) k ++ xs.drop j
theorem midway_len {α : Type} {m : α → Int → α} {adv : α → Nat} {xs : List α} {k : Int} {j : Nat} (hj : j ≤ xs.length) : (midway m adv xs k j).length = xs.length := by
  simp [midway, marks_len]; omega
theorem midway_get {α : Type} {m : α → Int → α} {adv : α → Nat} {xs : List α} {k : Int} {j : Nat} (hj : j < xs.length) (h : j < (midway m adv xs k j).length) : (midway m adv xs k j)[j] = xs[j] := by
  have hl : (marks m adv (xs.take j) k).length = j := by rw [marks_len, List.length_take]; omega
  rw [List.getElem_eq_iff]
  unfold midway
  rw [List.getElem?_append_right (by omega), hl, Nat.sub_self, List.getElem?_drop, Nat.add_zero, List.getElem?_eq_getElem hj]
theorem midway_succ {α : Type} {m : α → Int → α} {adv : α → Nat} {xs : List α} {k : Int} {j : Nat} (hj : j < xs.length) : midway m adv xs k (j + 1) = (midway m adv xs k j).set j (m xs[j] (k + (dsum adv (xs.take j) : Nat))) := by
  have hl : (marks m adv (xs.take j) k).length = j := by rw [marks_len, List.length_take]; omega
  unfold midway
  rw [marks_take hj, List.set_append_right _ _ (by omega), hl, Nat.sub_self, List.drop_eq_getElem_cons hj, List.set_cons_zero, List.append_assoc, List.singleton_append]
theorem midway_all {α : Type} {m : α → Int → α} {adv : α → Nat} {xs : List α} {k : Int} : midway m adv xs k xs.length = marks m adv xs k := by simp [midway]
theorem marks_map {α β : Type} {m : α → Int → α} {adv : α → Nat} {f : α → β} (hf : ∀ x k, f (m x k) = f x) : ∀ (xs : List α) (k : Int), (marks m adv xs k).map f = xs.map f
  | [], _ => rfl
  | x :: xs, k => by simp [marks, hf, marks_map hf xs]
theorem midway_map {α β : Type} {m : α → Int → α} {adv : α → Nat} {f : α → β} (hf : ∀ x k, f (m x k) = f x) (xs : List α) (k : Int) (j : Nat) : (midway m adv xs k j).map f = xs.map f := by
  rw [midway, List.map_append, marks_map hf, ← List.map_append, List.take_append_drop]
theorem ap_of_map {α : Type} {f : α → Option Addr} {xs ys : List α} (h : Ap f xs) (e : ys.map f = xs.map f) : Ap f ys := by
  have key : ∀ zs : List α, Ap f zs ↔ (zs.map f).Pairwise fun x y => ∀ a b, x = some a → y = some b → a.block ≠ b.block := fun zs => by unfold Ap; rw [List.pairwise_map]
  rw [key] at h ⊢
  rw [e]; exact h
theorem ap_get {α : Type} {f : α → Option Addr} {xs : List α} (h : Ap f xs) {i j : Nat} (hi : i < xs.length) (hj : j < xs.length) (hne : i ≠ j) {a b : Addr} (ha : f xs[i] = some a) (hb : f xs[j] = some b) : a.block ≠ b.block := by
  have h' := List.pairwise_iff_getElem.1 h
  rcases Nat.lt_or_gt_of_ne hne with hl | hl
  · exact h' i j hi hj hl a b ha hb
  · exact fun e => h' j i hj hi hl b a hb ha e.symm

def m3 (k : Int) : Bool := k % 3 == 0
def mFilter (_ : DFilter) (k : Int) : DFilter := ⟨m3 k, IntKind.u32.wrap (k + 1), IntKind.u32.wrap (k + 1 + 1)⟩
def mFrame (f : LFrame) (k : Int) : LFrame := { f with ext := m3 k, id := IntKind.u32.wrap (k + 1), rtr := m3 (k + 1 + 1), dlc := k + 1 + 1 + 1, data := mB f.data.length (k + 1 + 1 + 1 + 1) }
def mBox (b : LBox) (k : Int) : LBox := ⟨k, k + 1, k + 1 + 1, mFrame b.f (k + 1 + 1 + 1)⟩
def mEvent (b : LEvent) (k : Int) : LEvent := ⟨k, k + 1, k + 1 + 1, mFrame b.f (k + 1 + 1 + 1)⟩
def aFilter (_ : DFilter) : Nat := 3
def aFrame (f : LFrame) : Nat := 4 + f.data.length
def aBox (b : LBox) : Nat := 7 + b.f.data.length
def aEvent (b : LEvent) : Nat := 7 + b.f.data.length

/-- Rows of elements of two types lie in two blocks. -/
theorem blk_ne {w : World} {e1 e2 : TypeId} {a b : Addr} {cs ds : List Value} (h1 : Cells True w e1 (some a) cs) (h2 : Cells True w e2 (some b) ds) (n1 : cs ≠ []) (n2 : ds ≠ []) (hne : e1 ≠ e2) : a.block ≠ b.block := by
  rcases h1 with h1 | ⟨g, off, all, e', fr, hA, hb, hf, hc⟩
  · exact absurd h1 n1
  rcases h2 with h2 | ⟨g', off', all', e'', fr', hA', hb', hf', hc'⟩
  · exact absurd h2 n2
  injection hA with hA; injection hA' with hA'
  subst hA; subst hA'
  intro e
  dsimp only at e
  subst e
  obtain ⟨rfl, _⟩ := hf trivial
  obtain ⟨rfl, _⟩ := hf' trivial
  rw [hb] at hb'
  injection hb' with hb'
  injection hb' with _ ht
  exact hne ht
theorem Cells.putAt {w : World} {e : TypeId} {g off : Nat} {cs : List Value} (h : Cells True w e (some ⟨g, off, none⟩) cs) (o i : Nat) (ho : o = off + i) (hi : i < cs.length) (v : Value) :
    Cells True (w.setCell ⟨g, o, none⟩ v) e (some ⟨g, off, none⟩) (cs.set i v) := by subst ho; exact h.put i hi v
theorem set_same {l : List Value} {i : Nat} {v : Value} (h : l[i]? = some v) : l.set i v = l := by
  obtain ⟨hi, rfl⟩ := List.getElem?_eq_some_iff.1 h
  exact List.set_getElem_self hi
theorem put3F {α : Type} {enc : α → List Value} (he : ∀ x, (enc x).length = 3) {w : World} {e : TypeId} {g off : Nat} {xs : List α} (h : Cells True w e (some ⟨g, off, none⟩) (xs.flatMap enc)) (k : Nat) (hk : k < xs.length) (y : α) {a0 a1 a2 : Value} (hy : enc y = [a0, a1, a2]) :
    Cells True (((w.setCell ⟨g, off + k * 3, none⟩ a0).setCell ⟨g, off + k * 3 + 1, none⟩ a1).setCell ⟨g, off + k * 3 + 2, none⟩ a2) e (some ⟨g, off, none⟩) ((xs.set k y).flatMap enc) := by
  have hl : k * 3 + 3 ≤ (xs.flatMap enc).length := by rw [flatMap_len he, ← Nat.succ_mul]; exact Nat.mul_le_mul_right _ hk
  have h1 := ((h.putAt _ (k * 3) rfl (by omega) a0).putAt (off + k * 3 + 1) (k * 3 + 1) (by omega) (by simp only [List.length_set]; omega) a1).putAt (off + k * 3 + 2) (k * 3 + 2) (by omega) (by simp only [List.length_set]; omega) a2
  have := flatMap_set he xs k hk y
  rw [hy] at this
  rw [← this]
  exact h1
theorem put4F {α : Type} {enc : α → List Value} (he : ∀ x, (enc x).length = 5) {w : World} {e : TypeId} {g off : Nat} {xs : List α} (h : Cells True w e (some ⟨g, off, none⟩) (xs.flatMap enc)) (k : Nat) (hk : k < xs.length) (y : α) {a0 a1 a2 a3 a4 : Value} (hy : enc y = [a0, a1, a2, a3, a4]) (ha : (enc xs[k])[4]? = some a4) :
    Cells True ((((w.setCell ⟨g, off + k * 5, none⟩ a0).setCell ⟨g, off + k * 5 + 1, none⟩ a1).setCell ⟨g, off + k * 5 + 2, none⟩ a2).setCell ⟨g, off + k * 5 + 3, none⟩ a3) e (some ⟨g, off, none⟩) ((xs.set k y).flatMap enc) := by
  have hl : k * 5 + 5 ≤ (xs.flatMap enc).length := by rw [flatMap_len he, ← Nat.succ_mul]; exact Nat.mul_le_mul_right _ hk
  have h1 := (((h.putAt _ (k * 5) rfl (by omega) a0).putAt (off + k * 5 + 1) (k * 5 + 1) (by omega) (by simp only [List.length_set]; omega) a1).putAt (off + k * 5 + 2) (k * 5 + 2) (by omega) (by simp only [List.length_set]; omega) a2).putAt (off + k * 5 + 3) (k * 5 + 3) (by omega) (by simp only [List.length_set]; omega) a3
  have hs := flatMap_set he xs k hk y
  rw [hy] at hs
  have hg := flatMap_get he xs k 4 hk (by omega)
  rw [ha] at hg
  rw [← hs]
  show Cells True _ _ _ (((((xs.flatMap enc).set (k * 5) a0).set (k * 5 + 1) a1).set (k * 5 + 1 + 1) a2).set (k * 5 + 1 + 1 + 1) a3 |>.set (k * 5 + 1 + 1 + 1 + 1) a4)
  rw [set_same (i := k * 5 + 1 + 1 + 1 + 1)]
  · exact h1
  · rw [List.getElem?_set_ne (by omega), List.getElem?_set_ne (by omega), List.getElem?_set_ne (by omega), List.getElem?_set_ne (by omega)]; exact hg
theorem put7F {α : Type} {enc : α → List Value} (he : ∀ x, (enc x).length = 8) {w : World} {e : TypeId} {g off : Nat} {xs : List α} (h : Cells True w e (some ⟨g, off, none⟩) (xs.flatMap enc)) (k : Nat) (hk : k < xs.length) (y : α) {a0 a1 a2 a3 a4 a5 a6 a7 : Value} (hy : enc y = [a0, a1, a2, a3, a4, a5, a6, a7]) (ha : (enc xs[k])[7]? = some a7) :
    Cells True (((((((w.setCell ⟨g, off + k * 8, none⟩ a0).setCell ⟨g, off + k * 8 + 1, none⟩ a1).setCell ⟨g, off + k * 8 + 2, none⟩ a2).setCell ⟨g, off + k * 8 + 3, none⟩ a3).setCell ⟨g, off + k * 8 + 4, none⟩ a4).setCell ⟨g, off + k * 8 + 5, none⟩ a5).setCell ⟨g, off + k * 8 + 6, none⟩ a6) e (some ⟨g, off, none⟩) ((xs.set k y).flatMap enc) := by
  have hl : k * 8 + 8 ≤ (xs.flatMap enc).length := by rw [flatMap_len he, ← Nat.succ_mul]; exact Nat.mul_le_mul_right _ hk
  have h1 := ((((((h.putAt _ (k * 8) rfl (by omega) a0).putAt (off + k * 8 + 1) (k * 8 + 1) (by omega) (by simp only [List.length_set]; omega) a1).putAt (off + k * 8 + 2) (k * 8 + 2) (by omega) (by simp only [List.length_set]; omega) a2).putAt (off + k * 8 + 3) (k * 8 + 3) (by omega) (by simp only [List.length_set]; omega) a3).putAt (off + k * 8 + 4) (k * 8 + 4) (by omega) (by simp only [List.length_set]; omega) a4).putAt (off + k * 8 + 5) (k * 8 + 5) (by omega) (by simp only [List.length_set]; omega) a5).putAt (off + k * 8 + 6) (k * 8 + 6) (by omega) (by simp only [List.length_set]; omega) a6
  have hs := flatMap_set he xs k hk y
  rw [hy] at hs
  have hg := flatMap_get he xs k 7 hk (by omega)
  rw [ha] at hg
  rw [← hs]
  show Cells True _ _ _ ((((((((xs.flatMap enc).set (k * 8) a0).set (k * 8 + 1) a1).set (k * 8 + 1 + 1) a2).set (k * 8 + 1 + 1 + 1) a3).set (k * 8 + 1 + 1 + 1 + 1) a4).set (k * 8 + 1 + 1 + 1 + 1 + 1) a5).set (k * 8 + 1 + 1 + 1 + 1 + 1 + 1) a6 |>.set (k * 8 + 1 + 1 + 1 + 1 + 1 + 1 + 1) a7)
  rw [set_same (i := k * 8 + 1 + 1 + 1 + 1 + 1 + 1 + 1)]
  · exact h1
  · rw [List.getElem?_set_ne (by omega), List.getElem?_set_ne (by omega), List.getElem?_set_ne (by omega), List.getElem?_set_ne (by omega), List.getElem?_set_ne (by omega), List.getElem?_set_ne (by omega), List.getElem?_set_ne (by omega)]; exact hg

theorem markFilterS_any (w : World) (A : Option Addr) (c : Nat) (e1 : TypeId) (xs : List DFilter) (k : Int) (k0 : 0 ≤ k) (k1 : k ≤ 1099511627776) (lx : xs.length ≤ 4194304) (hx : Cells True w e1 A (xs.flatMap DFilter.cs)) :
    Calls Try.prog 42 #[.slice A xs.length c, .int .i64 k] w fun e w' => e = .returned (.int .i64 (k + (dsum aFilter xs : Nat))) ∧ Cells True w' e1 A ((marks mFilter aFilter xs k).flatMap DFilter.cs) ∧ Chg (inBlk A xs.length) w w' := by
  go_enter Try.func42, Try.ntmps42
  go_wp2_with fail
  go_loopw [1, 5] (fun l i wr => ∃ j : Nat, j ≤ xs.length ∧ i = .int .i64 j ∧ l = .int .i64 (k + (dsum aFilter (xs.take j) : Nat)) ∧ Cells True wr e1 A ((midway mFilter aFilter xs k j).flatMap DFilter.cs) ∧ Chg (inBlk A xs.length) w wr) (fun _ i _ => xs.length - (intOf i).toNat)
  case atStart => exact ⟨0, by omega, rfl, by simp [dsum], by simpa [midway, marks] using hx, Chg.refl _ _⟩
  case round =>
    clear hx
    obtain ⟨j, hj, rfl, rfl, hc, hb⟩ := hrel
    by_cases hlt : j < xs.length
    · have hl : j < (midway mFilter aFilter xs k j).length := by rw [midway_len hj]; exact hlt
      have hg := midway_get (m := mFilter) (adv := aFilter) (k := k) hlt hl
      have HT : Hid _ := dsum_take (f := aFilter) hlt
      have HS : Hid _ := midway_succ (m := mFilter) (adv := aFilter) (k := k) hlt
      have hd : dsum aFilter (xs.take j) ≤ 12582912 := by
        have h1 : ∀ ys : List DFilter, dsum aFilter ys = 3 * ys.length := fun ys => by induction ys with | nil => rfl | cons y ys ih => simp only [dsum, List.map_cons, List.sum_cons, List.length_cons] at ih ⊢; rw [ih]; simp only [aFilter]; omega
        rw [h1, List.length_take]; omega
      generalize hD : dsum aFilter (xs.take j) = D at *
      have HD : Hid _ := hD
      clear hD
      generalize hM : midway mFilter aFilter xs k j = M at *
      have HM : Hid _ := hM
      clear hM
      obtain ⟨g, o, rfl, hgl, ⟨e0, e1, e2⟩⟩ := filterAt hc j hl
      have hf := hc.free (by rw [flatMap_len DFilter.cs_len]; omega)
      have hc' := put3F DFilter.cs_len hc j hl (mFilter xs[j] (k + (D : Nat))) rfl
      rw [hg] at e0 e1 e2
      clear hc hg
      go_wp2_with fail
      go_roundw
      case rel =>
        refine ⟨j + 1, by omega, by go_num, by rw [HT.out]; simp only [aFilter]; go_num, ?_, ?_⟩
        · rw [HS.out]; exact hc'
        · repeat first | with_reducible exact hb | (refine Chg.set ?_ (fun _ => ⟨by omega, _, rfl, rfl⟩) _)
      case measure => simp [intOf]; omega
    · obtain rfl : j = xs.length := by omega
      rw [midway_all] at hc
      rw [List.take_length]
      go_wp2_with fail
      go_ret
      exact ⟨rfl, hc, hb⟩

theorem FrameR.chgRow {w w' : World} {S : Nat → Prop} {f : LFrame} (h : FrameR p w f) (c : Chg S w w') (hs : f.data ≠ [] → ∀ a, f.A = some a → ¬ S a.block) : FrameR p w' f := by
  by_cases hd : f.data = []
  · unfold FrameR BytesR; rw [hd]; exact .inl rfl
  · exact Cells.chg h c (hs hd)
theorem flat_ne {f : LFrame} (h : f.data ≠ []) : f.data.flatMap cByte ≠ [] := fun e => h (List.eq_nil_of_length_eq_zero (by have := congrArg List.length e; rw [flatMap_len cByte_len] at this; simpa using this))
theorem len_ne {f : LFrame} (h : 0 < f.data.length) : f.data ≠ [] := fun e => by rw [e] at h; simp at h

theorem markFrameS_any (w : World) (A : Option Addr) (c : Nat) (e1 : TypeId) (he : e1 ≠ 5) (xs : List LFrame) (k : Int) (k0 : 0 ≤ k) (k1 : k ≤ 1099511627776) (lx : xs.length ≤ 4194304) (hs : dsum aFrame xs ≤ 1099511627776) (hd : ∀ x ∈ xs, x.data.length ≤ 4194304) (hx : FramesR True w e1 A xs) (hap : Ap (fun x : LFrame => x.A) xs) :
    Calls Try.prog 44 #[.slice A xs.length c, .int .i64 k] w fun e w' => e = .returned (.int .i64 (k + (dsum aFrame xs : Nat))) ∧ FramesR True w' e1 A (marks mFrame aFrame xs k) ∧ Chg (fun b => inBlk A xs.length b ∨ ∃ x ∈ xs, inBlk x.A x.data.length b) w w' := by
  go_enter Try.func44, Try.ntmps44
  go_wp2_with fail
  go_loopw [1, 5] (fun l i wr => ∃ j : Nat, j ≤ xs.length ∧ i = .int .i64 j ∧ l = .int .i64 (k + (dsum aFrame (xs.take j) : Nat)) ∧ FramesR True wr e1 A (midway mFrame aFrame xs k j) ∧ Chg (fun b => inBlk A xs.length b ∨ ∃ x ∈ xs, inBlk x.A x.data.length b) w wr) (fun _ i _ => xs.length - (intOf i).toNat)
  case atStart => exact ⟨0, by omega, rfl, by simp [dsum], by simpa [midway, marks] using hx, Chg.refl _ _⟩
  case round =>
    clear hx
    obtain ⟨j, hj, rfl, rfl, hc, hb⟩ := hrel
    by_cases hlt : j < xs.length
    · have hl : j < (midway mFrame aFrame xs k j).length := by rw [midway_len hj]; exact hlt
      have hg := midway_get (m := mFrame) (adv := aFrame) (k := k) hlt hl
      have HT : Hid _ := dsum_take (f := aFrame) hlt
      have HL : Hid _ := dsum_le (f := aFrame) xs (j + 1)
      have HS : Hid _ := midway_succ (m := mFrame) (adv := aFrame) (k := k) hlt
      have HA : Hid _ := ap_of_map hap (midway_map (m := mFrame) (adv := aFrame) (f := (fun x : LFrame => x.A)) (fun _ _ => rfl) xs k j)
      have hdj := hd _ (List.getElem_mem hlt)
      have hmj : xs[j] ∈ xs := List.getElem_mem hlt
      have hD0 : dsum aFrame (xs.take j) ≤ 1099511627776 := Nat.le_trans (dsum_le _ _) hs
      generalize dsum aFrame (xs.take j) = D at *
      generalize midway mFrame aFrame xs k j = M at *
      obtain ⟨g, o, rfl, hgl, ⟨e0, e1, e2, e3, e4⟩⟩ := frameAt hc.1 j hl
      have hf := hc.1.free (by rw [flatMap_len LFrame.cs_len]; omega)
      have hfr := hc.2 _ (List.getElem_mem hl)
      have hneg : ∀ f : LFrame, f.data ≠ [] → FrameR True wr f → ∀ a, f.A = some a → ¬ (a.block = g) := fun f hf1 hf2 a ha => by
        have h2 := hf2
        unfold FrameR BytesR at h2
        rw [ha] at h2
        exact blk_ne h2 hc.1 (flat_ne hf1) (by intro e; have := congrArg List.length e; rw [flatMap_len LFrame.cs_len] at this; simp at this; omega) (Ne.symm he)
      have hc1 := put4F LFrame.cs_len hc.1 j hl (mFrame xs[j] (k + (D : Nat))) (by simp only [mFrame, mFrame, LFrame.cs, mB_len]; rfl) (by rw [hg]; rfl)
      have hc2 := hc.2
      rw [hg] at e0 e1 e2 e3 e4 hfr
      clear hc
      go_wp2_with fail
      refine (markByteS_any _ xs[j].A _ _ _ (by omega) (by have h1 := HT.out; have h2 := HL.out; simp only [aFrame] at h1; omega) hdj (by exact FrameR.chgRow (S := fun b => b = g) hfr (by repeat first | with_reducible exact Chg.refl _ _ | with_reducible assumption | with_reducible refine Chg.alloc ?_ _ | with_reducible refine Chg.drewN ?_ _ | with_reducible refine Chg.drew ?_ | (refine Chg.set ?_ (by simp <;> omega) _)) (fun h1 a ha => hneg _ h1 hfr a ha))).mono ?_; rintro e w2 ⟨rfl, hR, hch⟩
      have hA := Cells.chg hc1 hch (fun a ha => by
        injection ha with ha; subst ha
        rintro ⟨h1, a', h2, h3⟩
        exact hneg _ (len_ne h1) hfr a' h2 h3)
      have hall : ∀ y ∈ M.set j (mFrame xs[j] (k + (D : Nat))), FrameR True w2 y := fun y hy => by
        obtain ⟨i, hi, rfl⟩ := List.mem_iff_getElem.1 hy
        by_cases hij : j = i
        · subst hij
          rw [List.getElem_set_self]
          exact hR
        · rw [List.getElem_set_ne hij]
          have hi' : i < M.length := by simpa using hi
          have hfi := hc2 _ (List.getElem_mem hi')
          refine FrameR.chgRow (FrameR.chgRow (S := fun b => b = g) hfi (by repeat first | with_reducible exact Chg.refl _ _ | with_reducible assumption | with_reducible refine Chg.alloc ?_ _ | with_reducible refine Chg.drewN ?_ _ | with_reducible refine Chg.drew ?_ | (refine Chg.set ?_ (by simp <;> omega) _)) (fun h1 a ha => hneg _ h1 hfi a ha)) hch (fun h1 a ha => ?_)
          rintro ⟨h2, a', h3, h4⟩
          exact ap_get HA.out hl hi' hij (a := a') (b := a) (by rw [hg]; exact h3) ha h4
      have hb2 : Chg (fun b => inBlk (some ⟨g, o, none⟩) xs.length b ∨ ∃ x ∈ xs, inBlk x.A x.data.length b) w w2 := by
        refine Chg.trans (b := _) ?_ hch (fun i _ h => .inr ⟨_, hmj, h⟩)
        repeat first | with_reducible exact hb | (refine Chg.set ?_ (fun _ => .inl ⟨by omega, _, rfl, rfl⟩) _)
      clear hch hR hb hc1 hf e0 e1 e2 e3 e4
      go_wp2_with fail
      go_roundw
      case rel =>
        refine ⟨j + 1, by omega, by go_num, by rw [HT.out]; simp only [aFrame]; go_num, ?_, hb2⟩
        rw [HS.out]; exact ⟨hA, hall⟩
      case measure => simp [intOf]; omega
    · obtain rfl : j = xs.length := by omega
      rw [midway_all] at hc
      rw [List.take_length]
      go_wp2_with fail
      go_ret
      exact ⟨rfl, hc, hb⟩

theorem markBoxS_any (w : World) (A : Option Addr) (c : Nat) (e1 : TypeId) (he : e1 ≠ 5) (xs : List LBox) (k : Int) (k0 : 0 ≤ k) (k1 : k ≤ 1099511627776) (lx : xs.length ≤ 4194304) (hs : dsum aBox xs ≤ 1099511627776) (hd : ∀ x ∈ xs, x.f.data.length ≤ 4194304) (hx : BoxesR True w e1 A xs) (hap : Ap (fun x : LBox => x.f.A) xs) :
    Calls Try.prog 43 #[.slice A xs.length c, .int .i64 k] w fun e w' => e = .returned (.int .i64 (k + (dsum aBox xs : Nat))) ∧ BoxesR True w' e1 A (marks mBox aBox xs k) ∧ Chg (fun b => inBlk A xs.length b ∨ ∃ x ∈ xs, inBlk x.f.A x.f.data.length b) w w' := by
  go_enter Try.func43, Try.ntmps43
  go_wp2_with fail
  go_loopw [1, 5] (fun l i wr => ∃ j : Nat, j ≤ xs.length ∧ i = .int .i64 j ∧ l = .int .i64 (k + (dsum aBox (xs.take j) : Nat)) ∧ BoxesR True wr e1 A (midway mBox aBox xs k j) ∧ Chg (fun b => inBlk A xs.length b ∨ ∃ x ∈ xs, inBlk x.f.A x.f.data.length b) w wr) (fun _ i _ => xs.length - (intOf i).toNat)
  case atStart => exact ⟨0, by omega, rfl, by simp [dsum], by simpa [midway, marks] using hx, Chg.refl _ _⟩
  case round =>
    clear hx
    obtain ⟨j, hj, rfl, rfl, hc, hb⟩ := hrel
    by_cases hlt : j < xs.length
    · have hl : j < (midway mBox aBox xs k j).length := by rw [midway_len hj]; exact hlt
      have hg := midway_get (m := mBox) (adv := aBox) (k := k) hlt hl
      have HT : Hid _ := dsum_take (f := aBox) hlt
      have HL : Hid _ := dsum_le (f := aBox) xs (j + 1)
      have HS : Hid _ := midway_succ (m := mBox) (adv := aBox) (k := k) hlt
      have HA : Hid _ := ap_of_map hap (midway_map (m := mBox) (adv := aBox) (f := (fun x : LBox => x.f.A)) (fun _ _ => rfl) xs k j)
      have hdj := hd _ (List.getElem_mem hlt)
      have hmj : xs[j] ∈ xs := List.getElem_mem hlt
      have hD0 : dsum aBox (xs.take j) ≤ 1099511627776 := Nat.le_trans (dsum_le _ _) hs
      generalize dsum aBox (xs.take j) = D at *
      generalize midway mBox aBox xs k j = M at *
      obtain ⟨g, o, rfl, hgl, ⟨e0, e1, e2, e3, e4, e5, e6, e7⟩⟩ := boxAt hc.1 j hl
      have hf := hc.1.free (by rw [flatMap_len LBox.cs_len]; omega)
      have hfr := hc.2 _ (List.getElem_mem hl)
      have hneg : ∀ f : LFrame, f.data ≠ [] → FrameR True wr f → ∀ a, f.A = some a → ¬ (a.block = g) := fun f hf1 hf2 a ha => by
        have h2 := hf2
        unfold FrameR BytesR at h2
        rw [ha] at h2
        exact blk_ne h2 hc.1 (flat_ne hf1) (by intro e; have := congrArg List.length e; rw [flatMap_len LBox.cs_len] at this; simp at this; omega) (Ne.symm he)
      have hc1 := put7F LBox.cs_len hc.1 j hl (mBox xs[j] (k + (D : Nat))) (by simp only [mBox, mFrame, LBox.cs, mB_len]; rfl) (by rw [hg]; rfl)
      have hc2 := hc.2
      rw [hg] at e0 e1 e2 e3 e4 e5 e6 e7 hfr
      clear hc
      go_wp2_with fail
      refine (markByteS_any _ xs[j].f.A _ _ _ (by omega) (by have h1 := HT.out; have h2 := HL.out; simp only [aBox] at h1; omega) hdj (by exact FrameR.chgRow (S := fun b => b = g) hfr (by repeat first | with_reducible exact Chg.refl _ _ | with_reducible assumption | with_reducible refine Chg.alloc ?_ _ | with_reducible refine Chg.drewN ?_ _ | with_reducible refine Chg.drew ?_ | (refine Chg.set ?_ (by simp <;> omega) _)) (fun h1 a ha => hneg _ h1 hfr a ha))).mono ?_; rintro e w2 ⟨rfl, hR, hch⟩
      have hA := Cells.chg hc1 hch (fun a ha => by
        injection ha with ha; subst ha
        rintro ⟨h1, a', h2, h3⟩
        exact hneg _ (len_ne h1) hfr a' h2 h3)
      have hall : ∀ y ∈ M.set j (mBox xs[j] (k + (D : Nat))), FrameR True w2 y.f := fun y hy => by
        obtain ⟨i, hi, rfl⟩ := List.mem_iff_getElem.1 hy
        by_cases hij : j = i
        · subst hij
          rw [List.getElem_set_self]
          exact hR
        · rw [List.getElem_set_ne hij]
          have hi' : i < M.length := by simpa using hi
          have hfi := hc2 _ (List.getElem_mem hi')
          refine FrameR.chgRow (FrameR.chgRow (S := fun b => b = g) hfi (by repeat first | with_reducible exact Chg.refl _ _ | with_reducible assumption | with_reducible refine Chg.alloc ?_ _ | with_reducible refine Chg.drewN ?_ _ | with_reducible refine Chg.drew ?_ | (refine Chg.set ?_ (by simp <;> omega) _)) (fun h1 a ha => hneg _ h1 hfi a ha)) hch (fun h1 a ha => ?_)
          rintro ⟨h2, a', h3, h4⟩
          exact ap_get HA.out hl hi' hij (a := a') (b := a) (by rw [hg]; exact h3) ha h4
      have hb2 : Chg (fun b => inBlk (some ⟨g, o, none⟩) xs.length b ∨ ∃ x ∈ xs, inBlk x.f.A x.f.data.length b) w w2 := by
        refine Chg.trans (b := _) ?_ hch (fun i _ h => .inr ⟨_, hmj, h⟩)
        repeat first | with_reducible exact hb | (refine Chg.set ?_ (fun _ => .inl ⟨by omega, _, rfl, rfl⟩) _)
      clear hch hR hb hc1 hf e0 e1 e2 e3 e4 e5 e6 e7
      go_wp2_with fail
      go_roundw
      case rel =>
        refine ⟨j + 1, by omega, by go_num, by rw [HT.out]; simp only [aBox]; go_num, ?_, hb2⟩
        rw [HS.out]; exact ⟨hA, hall⟩
      case measure => simp [intOf]; omega
    · obtain rfl : j = xs.length := by omega
      rw [midway_all] at hc
      rw [List.take_length]
      go_wp2_with fail
      go_ret
      exact ⟨rfl, hc, hb⟩

theorem markEventS_any (w : World) (A : Option Addr) (c : Nat) (e1 : TypeId) (he : e1 ≠ 5) (xs : List LEvent) (k : Int) (k0 : 0 ≤ k) (k1 : k ≤ 1099511627776) (lx : xs.length ≤ 4194304) (hs : dsum aEvent xs ≤ 1099511627776) (hd : ∀ x ∈ xs, x.f.data.length ≤ 4194304) (hx : EventsR True w e1 A xs) (hap : Ap (fun x : LEvent => x.f.A) xs) :
    Calls Try.prog 45 #[.slice A xs.length c, .int .i64 k] w fun e w' => e = .returned (.int .i64 (k + (dsum aEvent xs : Nat))) ∧ EventsR True w' e1 A (marks mEvent aEvent xs k) ∧ Chg (fun b => inBlk A xs.length b ∨ ∃ x ∈ xs, inBlk x.f.A x.f.data.length b) w w' := by
  go_enter Try.func45, Try.ntmps45
  go_wp2_with fail
  go_loopw [1, 5] (fun l i wr => ∃ j : Nat, j ≤ xs.length ∧ i = .int .i64 j ∧ l = .int .i64 (k + (dsum aEvent (xs.take j) : Nat)) ∧ EventsR True wr e1 A (midway mEvent aEvent xs k j) ∧ Chg (fun b => inBlk A xs.length b ∨ ∃ x ∈ xs, inBlk x.f.A x.f.data.length b) w wr) (fun _ i _ => xs.length - (intOf i).toNat)
  case atStart => exact ⟨0, by omega, rfl, by simp [dsum], by simpa [midway, marks] using hx, Chg.refl _ _⟩
  case round =>
    clear hx
    obtain ⟨j, hj, rfl, rfl, hc, hb⟩ := hrel
    by_cases hlt : j < xs.length
    · have hl : j < (midway mEvent aEvent xs k j).length := by rw [midway_len hj]; exact hlt
      have hg := midway_get (m := mEvent) (adv := aEvent) (k := k) hlt hl
      have HT : Hid _ := dsum_take (f := aEvent) hlt
      have HL : Hid _ := dsum_le (f := aEvent) xs (j + 1)
      have HS : Hid _ := midway_succ (m := mEvent) (adv := aEvent) (k := k) hlt
      have HA : Hid _ := ap_of_map hap (midway_map (m := mEvent) (adv := aEvent) (f := (fun x : LEvent => x.f.A)) (fun _ _ => rfl) xs k j)
      have hdj := hd _ (List.getElem_mem hlt)
      have hmj : xs[j] ∈ xs := List.getElem_mem hlt
      have hD0 : dsum aEvent (xs.take j) ≤ 1099511627776 := Nat.le_trans (dsum_le _ _) hs
      generalize dsum aEvent (xs.take j) = D at *
      generalize midway mEvent aEvent xs k j = M at *
      obtain ⟨g, o, rfl, hgl, ⟨e0, e1, e2, e3, e4, e5, e6, e7⟩⟩ := eventAt hc.1 j hl
      have hf := hc.1.free (by rw [flatMap_len LEvent.cs_len]; omega)
      have hfr := hc.2 _ (List.getElem_mem hl)
      have hneg : ∀ f : LFrame, f.data ≠ [] → FrameR True wr f → ∀ a, f.A = some a → ¬ (a.block = g) := fun f hf1 hf2 a ha => by
        have h2 := hf2
        unfold FrameR BytesR at h2
        rw [ha] at h2
        exact blk_ne h2 hc.1 (flat_ne hf1) (by intro e; have := congrArg List.length e; rw [flatMap_len LEvent.cs_len] at this; simp at this; omega) (Ne.symm he)
      have hc1 := put7F LEvent.cs_len hc.1 j hl (mEvent xs[j] (k + (D : Nat))) (by simp only [mEvent, mFrame, LEvent.cs, mB_len]; rfl) (by rw [hg]; rfl)
      have hc2 := hc.2
      rw [hg] at e0 e1 e2 e3 e4 e5 e6 e7 hfr
      clear hc
      go_wp2_with fail
      refine (markByteS_any _ xs[j].f.A _ _ _ (by omega) (by have h1 := HT.out; have h2 := HL.out; simp only [aEvent] at h1; omega) hdj (by exact FrameR.chgRow (S := fun b => b = g) hfr (by repeat first | with_reducible exact Chg.refl _ _ | with_reducible assumption | with_reducible refine Chg.alloc ?_ _ | with_reducible refine Chg.drewN ?_ _ | with_reducible refine Chg.drew ?_ | (refine Chg.set ?_ (by simp <;> omega) _)) (fun h1 a ha => hneg _ h1 hfr a ha))).mono ?_; rintro e w2 ⟨rfl, hR, hch⟩
      have hA := Cells.chg hc1 hch (fun a ha => by
        injection ha with ha; subst ha
        rintro ⟨h1, a', h2, h3⟩
        exact hneg _ (len_ne h1) hfr a' h2 h3)
      have hall : ∀ y ∈ M.set j (mEvent xs[j] (k + (D : Nat))), FrameR True w2 y.f := fun y hy => by
        obtain ⟨i, hi, rfl⟩ := List.mem_iff_getElem.1 hy
        by_cases hij : j = i
        · subst hij
          rw [List.getElem_set_self]
          exact hR
        · rw [List.getElem_set_ne hij]
          have hi' : i < M.length := by simpa using hi
          have hfi := hc2 _ (List.getElem_mem hi')
          refine FrameR.chgRow (FrameR.chgRow (S := fun b => b = g) hfi (by repeat first | with_reducible exact Chg.refl _ _ | with_reducible assumption | with_reducible refine Chg.alloc ?_ _ | with_reducible refine Chg.drewN ?_ _ | with_reducible refine Chg.drew ?_ | (refine Chg.set ?_ (by simp <;> omega) _)) (fun h1 a ha => hneg _ h1 hfi a ha)) hch (fun h1 a ha => ?_)
          rintro ⟨h2, a', h3, h4⟩
          exact ap_get HA.out hl hi' hij (a := a') (b := a) (by rw [hg]; exact h3) ha h4
      have hb2 : Chg (fun b => inBlk (some ⟨g, o, none⟩) xs.length b ∨ ∃ x ∈ xs, inBlk x.f.A x.f.data.length b) w w2 := by
        refine Chg.trans (b := _) ?_ hch (fun i _ h => .inr ⟨_, hmj, h⟩)
        repeat first | with_reducible exact hb | (refine Chg.set ?_ (fun _ => .inl ⟨by omega, _, rfl, rfl⟩) _)
      clear hch hR hb hc1 hf e0 e1 e2 e3 e4 e5 e6 e7
      go_wp2_with fail
      go_roundw
      case rel =>
        refine ⟨j + 1, by omega, by go_num, by rw [HT.out]; simp only [aEvent]; go_num, ?_, hb2⟩
        rw [HS.out]; exact ⟨hA, hall⟩
      case measure => simp [intOf]; omega
    · obtain rfl : j = xs.length := by omega
      rw [midway_all] at hc
      rw [List.take_length]
      go_wp2_with fail
      go_ret
      exact ⟨rfl, hc, hb⟩

end Go.Proofs.Ytcfhjmflnochcaa