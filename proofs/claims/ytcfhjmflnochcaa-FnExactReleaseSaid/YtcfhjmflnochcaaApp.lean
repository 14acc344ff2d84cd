/-
  append, in the forms that the program uses it, and what is changed by it.
-/
import Derived.Test.YtcfhjmflnochcaaLib
import Derived.Deep.AppendLies
set_option linter.unusedVariables false
set_option linter.unusedSimpArgs false
namespace Go.Proofs.Ytcfhjmflnochcaa
open Go.RowKit
variable {p q : Prop}

/-- It returns v x for some x of which P holds (behind a name: the walk's simp does not look into it). -/
def Ret {α : Type} (v : α → Value) (P : α → World → Prop) (e : Ending) (w' : World) : Prop := ∃ x, e = .returned (v x) ∧ P x w'
theorem Ret.mk {α : Type} {v : α → Value} {P : α → World → Prop} {e : Ending} {w' : World} (x : α) (h : e = .returned (v x)) (hp : P x w') : Ret v P e w' := ⟨x, h, hp⟩

/-- From w to w' at most the blocks of S have changed. -/
structure Chg (S : Nat → Prop) (w w' : World) : Prop where
  os : w'.os = w.os
  tape : w'.tape = w.tape
  output : w'.output = w.output
  size : w.heap.size ≤ w'.heap.size
  block : ∀ k, k < w.heap.size → ¬ S k → w'.heap[k]? = w.heap[k]?

theorem Chg.refl (S : Nat → Prop) (w : World) : Chg S w w := ⟨rfl, rfl, rfl, Nat.le_refl _, fun _ _ _ => rfl⟩
theorem Chg.trans {S T : Nat → Prop} {a b c : World} (h : Chg S a b) (k : Chg T b c) (hs : ∀ i, i < a.heap.size → T i → S i) : Chg S a c :=
  ⟨k.os.trans h.os, k.tape.trans h.tape, k.output.trans h.output, Nat.le_trans h.size k.size, fun i hi hn => (k.block i (Nat.lt_of_lt_of_le hi h.size) (fun ht => hn (hs i hi ht))).trans (h.block i hi hn)⟩
theorem Chg.mono {S T : Nat → Prop} {a b : World} (h : Chg S a b) (hs : ∀ i, i < a.heap.size → S i → T i) : Chg T a b := ⟨h.os, h.tape, h.output, h.size, fun i hi hn => h.block i hi (fun s => hn (hs i hi s))⟩
theorem Chg.of_below {w w' : World} (h : Below w.heap.size w w') (S : Nat → Prop) : Chg S w w' := ⟨h.os, h.tape, h.output, h.size, fun i hi _ => h.block i hi⟩
theorem Chg.to_below {B : Nat} {S : Nat → Prop} {w w' : World} (h : Chg S w w') (hB : B ≤ w.heap.size) (hs : ∀ i, S i → B ≤ i) : Below B w w' :=
  ⟨h.os, h.tape, h.output, h.size, fun i hi => h.block i (by omega) (fun s => by have := hs i s; omega)⟩
theorem Chg.grown {S : Nat → Prop} {w w' : World} {row : Option Nat} (h : w.grownBy w' row) (hs : ∀ k, row = some k → k < w.heap.size → S k) : Chg S w w' :=
  ⟨h.os, h.tape, h.output, h.size, fun i hi hn => h.block i hi (fun e => hn (hs i e.symm hi))⟩
theorem Chg.alloc {S : Nat → Prop} {w W : World} (h : Chg S w W) (o : Obj) : Chg S w (W.alloc o) :=
  h.trans (Chg.of_below ((Below.refl _ _).alloc (Nat.le_refl _) o) (fun _ => False)) (fun _ _ f => f.elim)
theorem Chg.drewN {S : Nat → Prop} {w W : World} (h : Chg S w W) (n : Nat) : Chg S w (W.drewN n) := ⟨h.os, h.tape, h.output, h.size, h.block⟩
theorem Chg.drew {S : Nat → Prop} {w W : World} (h : Chg S w W) : Chg S w W.drew := ⟨h.os, h.tape, h.output, h.size, h.block⟩
theorem Chg.set {S : Nat → Prop} {w W : World} (h : Chg S w W) {p : Addr} (hp : p.block < w.heap.size → S p.block) (u : Value) : Chg S w (W.setCell p u) :=
  ⟨h.os, h.tape, h.output, by simpa [World.setCell] using h.size, fun i hi hn => (Below.heap_setCell _ _ _ _ (fun e => hn (by rw [e] at hi ⊢; exact hp hi))).trans (h.block i hi hn)⟩
theorem bl_grown {w W W1 : World} {row : Option Nat} (h : Below w.heap.size w W) (hg : W.grownBy W1 row) (hr : ∀ k, row = some k → w.heap.size ≤ k) : Below w.heap.size w W1 := h.grown hg h.size hr
theorem bl_chg {w W W1 : World} {S : Nat → Prop} (h : Below w.heap.size w W) (hc : Chg S W W1) (hr : ∀ k, S k → w.heap.size ≤ k) : Below w.heap.size w W1 :=
  h.trans (hc.to_below h.size hr)

theorem Cells.chg {w w' : World} {S : Nat → Prop} {e : TypeId} {A : Option Addr} {cs : List Value} (h : Cells p w e A cs) (c : Chg S w w') (hs : ∀ a, A = some a → ¬ S a.block) : Cells p w' e A cs :=
  h.keep fun g off hA hg _ => c.block g hg (hs _ hA)
theorem own_cells {w : World} {base n : Nat} {e : TypeId} {size : Nat} {A : Option Addr} {m c : Nat} {xs : List Value} (h : w.ownsRow base e size (.slice A m c) n xs) : Cells True w e A xs := by
  obtain ⟨hl, h⟩ := h
  rcases h with ⟨_, rfl⟩ | ⟨g, cap, cur, hv, _, hb, hn, _, hs, ht⟩
  · exact .inl (List.eq_nil_of_length_eq_zero (by simpa using hl))
  · injection hv with hv _ _
    subst hv
    refine .inr ⟨g, 0, cur, e, (0, 0), rfl, hb, fun _ => ⟨rfl, rfl⟩, fun i hi => ?_⟩
    rw [Nat.zero_add, ← ht, List.getElem?_take, if_pos (by omega)]
    simp

theorem own_form {w : World} {base n : Nat} {e : TypeId} {size : Nat} {v : Value} {xs : List Value} (h : w.ownsRow base e size v n xs) : ∃ A c, v = .slice A n c := by
  rcases h.2 with ⟨rfl, rfl⟩ | ⟨g, cap, cur, rfl, _⟩
  · exact ⟨none, 0, rfl⟩
  · exact ⟨_, cap, rfl⟩

theorem own_keep {w w' : World} {base n : Nat} {e : TypeId} {size : Nat} {v : Value} {xs : List Value} (h : w.ownsRow base e size v n xs) (hk : ∀ g, v.ownBlock = some g → g < w.heap.size → w'.heap[g]? = w.heap[g]?) : w'.ownsRow base e size v n xs := by
  refine ⟨h.1, ?_⟩
  rcases h.2 with h2 | ⟨g, cap, cur, rfl, hb, hh, r⟩
  · exact .inl h2
  · exact .inr ⟨g, cap, cur, rfl, hb, (hk g rfl (lt_of_heap hh)).trans hh, r⟩

theorem own_lt {w : World} {base n : Nat} {e : TypeId} {size : Nat} {v : Value} {xs : List Value} (h : w.ownsRow base e size v n xs) {g : Nat} (hg : v.ownBlock = some g) : g < w.heap.size := by
  rcases h.2 with ⟨rfl, _⟩ | ⟨g', cap, cur, rfl, hb, hh, r⟩
  · simp [Value.ownBlock] at hg
  · have : g' = g := by simpa [Value.ownBlock] using hg
    exact this ▸ lt_of_heap hh
theorem own_ge {w : World} {base n : Nat} {e : TypeId} {size : Nat} {v : Value} {xs : List Value} (h : w.ownsRow base e size v n xs) {g : Nat} (hg : v.ownBlock = some g) : base ≤ g := by
  rcases h.2 with ⟨rfl, _⟩ | ⟨g', cap, cur, rfl, hb, hh, r⟩
  · simp [Value.ownBlock] at hg
  · have : g' = g := by simpa [Value.ownBlock] using hg
    omega
theorem own_type {w : World} {base n : Nat} {e : TypeId} {size : Nat} {v : Value} {xs : List Value} (h : w.ownsRow base e size v n xs) {g : Nat} (hg : v.ownBlock = some g) : ∃ cs, w.heap[g]? = some (.cells cs e (0, 0)) := by
  rcases h.2 with ⟨rfl, _⟩ | ⟨g', cap, cur, rfl, hb, hh, r⟩
  · simp [Value.ownBlock] at hg
  · have : g' = g := by simpa [Value.ownBlock] using hg
    exact this ▸ ⟨cur, hh⟩
theorem own_base {w : World} {base base' n : Nat} {e : TypeId} {size : Nat} {v : Value} {xs : List Value} (h : w.ownsRow base e size v n xs) (hb : ∀ g, v.ownBlock = some g → base' ≤ g) : w.ownsRow base' e size v n xs := by
  refine ⟨h.1, ?_⟩
  rcases h.2 with h2 | ⟨g, cap, cur, rfl, _, r⟩
  · exact .inl h2
  · exact .inr ⟨g, cap, cur, rfl, hb g rfl, r⟩

/-- An empty literal: '[]T{}'. -/
theorem own_empty (W : World) (base : Nat) (e : TypeId) (size : Nat) (hb : base ≤ W.heap.size) (H : Nat) (hH : W.heap.size = H) : (W.alloc (.cells #[] e)).ownsRow base e size (.slice (some ⟨H, 0, none⟩) 0 0) 0 [] := by
  subst hH
  have := World.ownsRow_lit (base := base) (e := e) (size := size) W #[] 0 hb (by simp [maxLen]) (by simp)
  simpa using this
theorem own_nil (W : World) (base : Nat) (e : TypeId) (size : Nat) : W.ownsRow base e size (.slice none 0 0) 0 [] := ⟨by simp, .inl ⟨rfl, rfl⟩⟩

section
variable {P : Program}
/-- append(v, ys...), v a row of one's own, ys whatever is read. -/
theorem run_app (W : World) (base : Nat) (t ty e : TypeId) (z : Value) (size bytes : Nat) (ht : P.underlying t = some (.slice e))
    (hinfo : (P.info? e).map (fun i => (i.zero, i.size, i.bytes)) = some (some z, size, bytes)) (hzs : z.cells.size = size) (hsz : 0 < size) (hb0 : 0 < bytes)
    (v : Value) (n : Nat) (xs : List Value) (hown : W.ownsRow base e size v n xs) (e2 : TypeId) (A : Option Addr) (m c : Nat) (news : List Value) (hc : Cells p W e2 A news) (hl : news.length = m * size)
    (h1 : ∀ u ∈ news, u.oneCell' = true) (hbytes : (n + m) * bytes ≤ 140737488355328) (hbase : base ≤ W.heap.size) :
    ∃ v' w', (Builtin.append_ #[t, t] ty #[v, .slice A m c]).run P W = .ok v' w' ∧ w'.ownsRow base e size v' (n + m) (xs ++ news) ∧ W.grownBy w' v.ownBlock ∧ (v'.ownBlock = v.ownBlock ∨ v'.ownBlock = some W.heap.size) := by
  obtain ⟨i0, hi, hz0, hz1, hz2⟩ := info_parts hinfo
  have hlen : n + m ≤ 140737488355328 := Nat.le_trans (Nat.le_mul_of_pos_right _ hb0) hbytes
  rcases Nat.eq_zero_or_pos m with h0 | h0
  · subst h0
    obtain rfl : news = [] := List.eq_nil_of_length_eq_zero (by simpa using hl)
    refine ⟨v, W, ?_, by simpa using hown, World.grownBy.refl W _, .inl rfl⟩
    rcases hown.2 with ⟨rfl, hn⟩ | ⟨g, cap, cur, rfl, _, _, hnc, _⟩
    · rcases A with _ | ad <;> simp [Builtin.append_, run_underlying ht, sizeOf, typeInfo, hi, Builtin.lenOf, Builtin.firstCells, loadCells, loadCellsFrom]
    · rcases A with _ | ad <;> simp [Builtin.append_, run_underlying ht, sizeOf, typeInfo, hi, Builtin.lenOf, Builtin.firstCells, hnc, storeCells, loadCells, loadCellsFrom]
  · have hm : 0 < news.length := by rw [hl]; exact Nat.mul_pos h0 hsz
    obtain ⟨g, off, rfl, hg, hcell⟩ := hc.get hm
    obtain ⟨v', w', hr, h2, h3, _, h5⟩ := run_append_own_at (P := P) W base t ty e i0 z size bytes ht hi hz0 hz1 hz2 hzs hsz v n xs hown ⟨g, off, none⟩ m c news hl (by
        intro j u hu
        have hj := (List.getElem?_eq_some_iff.1 hu).1
        have : (⟨g, off, none⟩ : Addr).add j = ⟨g, off + j, none⟩ := by unfold Addr.add; split <;> simp_all
        rw [this, hcell j hj, hu]) h1 (by simp only [maxLen]; omega) hbytes hbase
    exact ⟨v', w', hr, h2, h3, h5⟩

theorem wp_app {o : Oper} {a : Act} {K : Act → World → Prop} {Q : Exit → Act → World → Prop} (W : World) (s x : Operand) (t : TypeId)
    (ho : o.op = .call { callee := .builtin .append, args := #[s, x], argTypes := #[t, t] })
    (base : Nat) (e : TypeId) (z : Value) (size bytes : Nat) (ht : P.underlying t = some (.slice e))
    (hinfo : (P.info? e).map (fun i => (i.zero, i.size, i.bytes)) = some (some z, size, bytes)) (hzs : z.cells.size = size) (hsz : 0 < size) (hb0 : 0 < bytes)
    (v : Value) (n : Nat) (xs : List Value) (hs : a.eval s = v) (hown : W.ownsRow base e size v n xs) (e2 : TypeId) (A : Option Addr) (m c : Nat) (news : List Value) (hx : a.eval x = .slice A m c) (hc : Cells p W e2 A news) (hl : news.length = m * size)
    (h1 : ∀ u ∈ news, u.oneCell' = true) (hbytes : (n + m) * bytes ≤ 140737488355328) (hbase : base ≤ W.heap.size)
    (h : ∀ A' c' w', w'.ownsRow base e size (.slice A' (n + m) c') (n + m) (xs ++ news) → W.grownBy w' v.ownBlock → ((Value.slice A' (n + m) c').ownBlock = v.ownBlock ∨ (Value.slice A' (n + m) c').ownBlock = some W.heap.size) → K (a.put o.dst (.slice A' (n + m) c')) w') :
    o.wp P a W K Q := by
  obtain ⟨v', w', hr, h2, h3, h5⟩ := run_app (P := P) W base t o.type e z size bytes ht hinfo hzs hsz hb0 v n xs hown e2 A m c news hc hl h1 hbytes hbase
  obtain ⟨A', c', rfl⟩ := own_form h2
  unfold Oper.wp execOp
  simp only [ho, resolve, invoke, builtin, Sem.run_bind, Sem.run_pure, Result.andThen_ok, List.map_toArray, List.map_cons, List.map_nil, hs, hx, hr]
  exact h A' c' w' h2 h3 h5

theorem wpl_app {ops : Array Oper} {rest : List Oper} {o : Oper} {a : Act} {Q : Exit → Act → World → Prop} (W : World) (hgd : o.guard = none) (s x : Operand) (t : TypeId)
    (ho : o.op = .call { callee := .builtin .append, args := #[s, x], argTypes := #[t, t] })
    (base : Nat) (e : TypeId) (z : Value) (size bytes : Nat) (ht : P.underlying t = some (.slice e))
    (hinfo : (P.info? e).map (fun i => (i.zero, i.size, i.bytes)) = some (some z, size, bytes)) (hzs : z.cells.size = size) (hsz : 0 < size) (hb0 : 0 < bytes)
    (v : Value) (n : Nat) (xs : List Value) (hs : a.eval s = v) (hown : W.ownsRow base e size v n xs) (e2 : TypeId) (A : Option Addr) (m c : Nat) (news : List Value) (hx : a.eval x = .slice A m c) (hc : Cells p W e2 A news) (hl : news.length = m * size)
    (h1 : ∀ u ∈ news, u.oneCell' = true) (hbytes : (n + m) * bytes ≤ 140737488355328) (hbase : base ≤ W.heap.size)
    (h : ∀ A' c' w', w'.ownsRow base e size (.slice A' (n + m) c') (n + m) (xs ++ news) → W.grownBy w' v.ownBlock → ((Value.slice A' (n + m) c').ownBlock = v.ownBlock ∨ (Value.slice A' (n + m) c').ownBlock = some W.heap.size) → wpList P ops Q rest (a.put o.dst (.slice A' (n + m) c')) w') :
    wpList P ops Q (o :: rest) a W :=
  wpList_plain hgd fun K hK => wp_app W s x t ho base e z size bytes ht hinfo hzs hsz hb0 v n xs hs hown e2 A m c news hx hc hl h1 hbytes hbase fun A' c' w' x1 x2 x3 => hK _ _ (h A' c' w' x1 x2 x3)

theorem step_app {ops : Array Oper} {o : Oper} {a : Act} {K : Act → World → Prop} {Q : Exit → Act → World → Prop} {E : Prop} (W : World) (hgd : o.guard = none) (s x : Operand) (t : TypeId)
    (ho : o.op = .call { callee := .builtin .append, args := #[s, x], argTypes := #[t, t] })
    (base : Nat) (e : TypeId) (z : Value) (size bytes : Nat) (ht : P.underlying t = some (.slice e))
    (hinfo : (P.info? e).map (fun i => (i.zero, i.size, i.bytes)) = some (some z, size, bytes)) (hzs : z.cells.size = size) (hsz : 0 < size) (hb0 : 0 < bytes)
    (v : Value) (n : Nat) (xs : List Value) (hs : a.eval s = v) (hown : W.ownsRow base e size v n xs) (e2 : TypeId) (A : Option Addr) (m c : Nat) (news : List Value) (hx : a.eval x = .slice A m c) (hc : Cells p W e2 A news) (hl : news.length = m * size)
    (h1 : ∀ u ∈ news, u.oneCell' = true) (hbytes : (n + m) * bytes ≤ 140737488355328) (hbase : base ≤ W.heap.size)
    (h : ∀ A' c' w', w'.ownsRow base e size (.slice A' (n + m) c') (n + m) (xs ++ news) → W.grownBy w' v.ownBlock → ((Value.slice A' (n + m) c').ownBlock = v.ownBlock ∨ (Value.slice A' (n + m) c').ownBlock = some W.heap.size) → K (a.put o.dst (.slice A' (n + m) c')) w') :
    if Region.wanted o (yielded ops a.tmps) = true then Oper.wp P o a W K Q else E := by
  have hw : Region.wanted o (yielded ops a.tmps) = true := by simp [Region.wanted, hgd]
  rw [if_pos hw]
  exact wp_app W s x t ho base e z size bytes ht hinfo hzs hsz hb0 v n xs hs hown e2 A m c news hx hc hl h1 hbytes hbase h
end

/-- A block that is known whole. -/
theorem cell_at {w : World} {b : Nat} {cs : Array Value} {e : TypeId} {fr : Nat × Nat} (h : w.heap[b]? = some (.cells cs e fr)) (i : Nat) (v : Value) (hv : cs[i]? = some v) : w.cell? ⟨b, i, none⟩ = some v := (cell_of_heap h i).trans hv
theorem frozen_at {w : World} {b : Nat} {cs : Array Value} {e : TypeId} (h : w.heap[b]? = some (.cells cs e (0, 0))) (i : Nat) : w.frozen? ⟨b, i, none⟩ = false := by
  simp [World.frozen?, h]
theorem heap_old {W : World} (o : Obj) {b : Nat} {x : Obj} (h : W.heap[b]? = some x) : (W.alloc o).heap[b]? = some x := (Below.heap_alloc W o b (lt_of_heap h)).trans h
theorem heap_new {W : World} (o : Obj) (b : Nat) (hb : W.heap.size = b) : (W.alloc o).heap[b]? = some o := by subst hb; exact heap_alloc_new W o
theorem heap_grown {W W1 : World} {row : Option Nat} (hg : W.grownBy W1 row) {b : Nat} {x : Obj} (h : W.heap[b]? = some x) (hr : some b ≠ row) : W1.heap[b]? = some x := (hg.block b (lt_of_heap h) hr).trans h
theorem heap_chg {W W1 : World} {S : Nat → Prop} (hg : Chg S W W1) {b : Nat} {x : Obj} (h : W.heap[b]? = some x) (hr : ¬ S b) : W1.heap[b]? = some x := (hg.block b (lt_of_heap h) hr).trans h
theorem heap_below {W W1 : World} (hg : Below W.heap.size W W1) {b : Nat} {x : Obj} (h : W.heap[b]? = some x) : W1.heap[b]? = some x := (hg.block b (lt_of_heap h)).trans h
theorem heap_set {w : World} {b j : Nat} {cs cs' : Array Value} {e : TypeId} {fr : Nat × Nat} {v : Value} (h : w.heap[b]? = some (.cells cs e fr)) (hc : cs.setIfInBounds j v = cs') : (w.setCell ⟨b, j, none⟩ v).heap[b]? = some (.cells cs' e fr) := by
  subst hc
  simp [World.setCell, Array.getElem?_modify, h]
theorem heap_far {w : World} {p : Addr} {v : Value} {b : Nat} {x : Obj} (h : w.heap[b]? = some x) (hne : b ≠ p.block) : (w.setCell p v).heap[b]? = some x := (Below.heap_setCell w p v b hne).trans h
theorem five {w : World} {b : Nat} {a0 a1 a2 a3 a4 : Value} {e : TypeId} (h : w.heap[b]? = some (.cells #[a0, a1, a2, a3, a4] e (0, 0))) :
    w.cell? ⟨b, 0, none⟩ = some a0 ∧ w.cell? ⟨b, 1, none⟩ = some a1 ∧ w.cell? ⟨b, 2, none⟩ = some a2 ∧ w.cell? ⟨b, 3, none⟩ = some a3 ∧ w.cell? ⟨b, 4, none⟩ = some a4 ∧ ∀ i, w.frozen? ⟨b, i, none⟩ = false :=
  ⟨cell_at h 0 _ rfl, cell_at h 1 _ rfl, cell_at h 2 _ rfl, cell_at h 3 _ rfl, cell_at h 4 _ rfl, frozen_at h⟩
theorem eight {w : World} {b : Nat} {a0 a1 a2 a3 a4 a5 a6 a7 : Value} {e : TypeId} (h : w.heap[b]? = some (.cells #[a0, a1, a2, a3, a4, a5, a6, a7] e (0, 0))) :
    w.cell? ⟨b, 0, none⟩ = some a0 ∧ w.cell? ⟨b, 1, none⟩ = some a1 ∧ w.cell? ⟨b, 2, none⟩ = some a2 ∧ w.cell? ⟨b, 3, none⟩ = some a3 ∧ w.cell? ⟨b, 4, none⟩ = some a4 ∧ w.cell? ⟨b, 5, none⟩ = some a5 ∧ w.cell? ⟨b, 6, none⟩ = some a6 ∧ w.cell? ⟨b, 7, none⟩ = some a7 ∧ ∀ i, w.frozen? ⟨b, i, none⟩ = false :=
  ⟨cell_at h 0 _ rfl, cell_at h 1 _ rfl, cell_at h 2 _ rfl, cell_at h 3 _ rfl, cell_at h 4 _ rfl, cell_at h 5 _ rfl, cell_at h 6 _ rfl, cell_at h 7 _ rfl, frozen_at h⟩
theorem ten {w : World} {b : Nat} {a0 a1 a2 a3 a4 a5 a6 a7 a8 a9 : Value} {e : TypeId} (h : w.heap[b]? = some (.cells #[a0, a1, a2, a3, a4, a5, a6, a7, a8, a9] e (0, 0))) :
    w.cell? ⟨b, 0, none⟩ = some a0 ∧ w.cell? ⟨b, 1, none⟩ = some a1 ∧ w.cell? ⟨b, 2, none⟩ = some a2 ∧ w.cell? ⟨b, 3, none⟩ = some a3 ∧ w.cell? ⟨b, 4, none⟩ = some a4 ∧ w.cell? ⟨b, 5, none⟩ = some a5 ∧ w.cell? ⟨b, 6, none⟩ = some a6 ∧ w.cell? ⟨b, 7, none⟩ = some a7 ∧ w.cell? ⟨b, 8, none⟩ = some a8 ∧ w.cell? ⟨b, 9, none⟩ = some a9 ∧ ∀ i, w.frozen? ⟨b, i, none⟩ = false :=
  ⟨cell_at h 0 _ rfl, cell_at h 1 _ rfl, cell_at h 2 _ rfl, cell_at h 3 _ rfl, cell_at h 4 _ rfl, cell_at h 5 _ rfl, cell_at h 6 _ rfl, cell_at h 7 _ rfl, cell_at h 8 _ rfl, cell_at h 9 _ rfl, frozen_at h⟩

/-- The cells of a new block. -/
theorem cells_new (W : World) (cs : List Value) (e : TypeId) (H : Nat) (hH : W.heap.size = H) : Cells True (W.alloc (.cells cs.toArray e)) e (some ⟨H, 0, none⟩) cs := by
  subst hH
  exact .inr ⟨W.heap.size, 0, cs.toArray, e, (0, 0), rfl, by simpa using heap_alloc_new W _, fun _ => ⟨rfl, rfl⟩, fun i hi => by simp⟩

/-! ### stores into a row -/
def setsAt : List Value → Nat → List Value → List Value
  | l, _, [] => l
  | l, o, v :: vs => setsAt (l.set o v) (o + 1) vs
theorem setsAt_mid (l3 : List Value) : ∀ (vs l1 l2 : List Value), vs.length = l2.length → setsAt (l1 ++ (l2 ++ l3)) l1.length vs = l1 ++ (vs ++ l3)
  | [], l1, l2, h => by
    obtain rfl : l2 = [] := List.eq_nil_of_length_eq_zero (by simpa using h.symm)
    rfl
  | v :: vs, l1, [], h => by simp at h
  | v :: vs, l1, b :: l2, h => by
    have h1 : (l1 ++ (b :: l2 ++ l3)).set l1.length v = (l1 ++ [v]) ++ (l2 ++ l3) := by
      rw [List.set_append_right _ _ (Nat.le_refl _)]; simp
    have h2 : l1.length + 1 = (l1 ++ [v]).length := by simp
    unfold setsAt
    rw [h1, h2, setsAt_mid l3 vs (l1 ++ [v]) l2 (by simpa using h)]
    simp
theorem flatMap_set {α : Type} {enc : α → List Value} {sz : Nat} (he : ∀ x, (enc x).length = sz) (xs : List α) (k : Nat) (hk : k < xs.length) (y : α) :
    setsAt (xs.flatMap enc) (k * sz) (enc y) = (xs.set k y).flatMap enc := by
  have h1 : xs.flatMap enc = (xs.take k).flatMap enc ++ (enc xs[k] ++ (xs.drop (k + 1)).flatMap enc) := by
    conv => lhs; rw [← List.take_append_drop k xs, List.drop_eq_getElem_cons hk, List.flatMap_append, List.flatMap_cons]
  have h2 : (xs.set k y).flatMap enc = (xs.take k).flatMap enc ++ (enc y ++ (xs.drop (k + 1)).flatMap enc) := by
    rw [List.set_eq_take_append_cons_drop, if_pos hk]
    simp
  have h3 : k * sz = ((xs.take k).flatMap enc).length := by rw [flatMap_len he, List.length_take, Nat.min_eq_left (by omega)]
  rw [h1, h2, h3, setsAt_mid _ _ _ _ (by rw [he, he])]
theorem made_flat {α : Type} {enc : α → List Value} {sz : Nat} (he : ∀ x, (enc x).length = sz) (z : α) (n : Nat) (hs : 0 < sz) : (madeCells (enc z).toArray (n * sz)).toList = (List.replicate n z).flatMap enc := by
  apply List.ext_getElem?
  intro i
  rcases Nat.lt_or_ge i (n * sz) with h | h
  · have hq : i / sz < n := (Nat.div_lt_iff_lt_mul hs).2 h
    have hi : i = i / sz * sz + i % sz := by rw [Nat.mul_comm]; exact (Nat.div_add_mod i sz).symm
    have h1 := flatMap_get he (List.replicate n z) (i / sz) (i % sz) (by simpa using hq) (Nat.mod_lt _ hs)
    rw [← hi] at h1
    rw [h1]
    have hm : i % sz < (enc z).length := by rw [he]; exact Nat.mod_lt _ hs
    simp [madeCells, h, he, List.getElem?_eq_getElem hm]
  · rw [List.getElem?_eq_none (by simpa [madeCells] using h), List.getElem?_eq_none (by rw [flatMap_len he]; simpa using h)]

theorem put1 {α : Type} {enc : α → List Value} (he : ∀ x, (enc x).length = 1) {w : World} {base : Nat} {e : TypeId} {g n c : Nat} {xs : List α} (h : w.ownsRow base e 1 (.slice (some ⟨g, 0, none⟩) n c) n (xs.flatMap enc)) (k : Nat) (hk : k < xs.length) (y : α)
    {a0 : Value} (hy : enc y = [a0]) :
    (w.setCell ⟨g, k, none⟩ a0).ownsRow base e 1 (.slice (some ⟨g, 0, none⟩) n c) n ((xs.set k y).flatMap enc) := by
  have h1 := (h.stored k a0).1
  have := flatMap_set he xs k hk y
  rw [hy] at this
  rw [← this]
  simpa [setsAt] using h1
theorem put3 {α : Type} {enc : α → List Value} (he : ∀ x, (enc x).length = 3) {w : World} {base : Nat} {e : TypeId} {g n c : Nat} {xs : List α} (h : w.ownsRow base e 3 (.slice (some ⟨g, 0, none⟩) n c) n (xs.flatMap enc)) (k : Nat) (hk : k < xs.length) (y : α)
    {a0 a1 a2 : Value} (hy : enc y = [a0, a1, a2]) :
    (((w.setCell ⟨g, k * 3, none⟩ a0).setCell ⟨g, k * 3 + 1, none⟩ a1).setCell ⟨g, k * 3 + 2, none⟩ a2).ownsRow base e 3 (.slice (some ⟨g, 0, none⟩) n c) n ((xs.set k y).flatMap enc) := by
  have h1 := (((h.stored (k * 3) a0).1.stored (k * 3 + 1) a1).1.stored (k * 3 + 2) a2).1
  have := flatMap_set he xs k hk y
  rw [hy] at this
  rw [← this]
  exact h1
theorem put5 {α : Type} {enc : α → List Value} (he : ∀ x, (enc x).length = 5) {w : World} {base : Nat} {e : TypeId} {g n c : Nat} {xs : List α} (h : w.ownsRow base e 5 (.slice (some ⟨g, 0, none⟩) n c) n (xs.flatMap enc)) (k : Nat) (hk : k < xs.length) (y : α)
    {a0 a1 a2 a3 a4 : Value} (hy : enc y = [a0, a1, a2, a3, a4]) :
    (((((w.setCell ⟨g, k * 5, none⟩ a0).setCell ⟨g, k * 5 + 1, none⟩ a1).setCell ⟨g, k * 5 + 2, none⟩ a2).setCell ⟨g, k * 5 + 3, none⟩ a3).setCell ⟨g, k * 5 + 4, none⟩ a4).ownsRow base e 5 (.slice (some ⟨g, 0, none⟩) n c) n ((xs.set k y).flatMap enc) := by
  have h1 := (((((h.stored (k * 5) a0).1.stored (k * 5 + 1) a1).1.stored (k * 5 + 2) a2).1.stored (k * 5 + 3) a3).1.stored (k * 5 + 4) a4).1
  have := flatMap_set he xs k hk y
  rw [hy] at this
  rw [← this]
  exact h1
theorem put8 {α : Type} {enc : α → List Value} (he : ∀ x, (enc x).length = 8) {w : World} {base : Nat} {e : TypeId} {g n c : Nat} {xs : List α} (h : w.ownsRow base e 8 (.slice (some ⟨g, 0, none⟩) n c) n (xs.flatMap enc)) (k : Nat) (hk : k < xs.length) (y : α)
    {a0 a1 a2 a3 a4 a5 a6 a7 : Value} (hy : enc y = [a0, a1, a2, a3, a4, a5, a6, a7]) :
    ((((((((w.setCell ⟨g, k * 8, none⟩ a0).setCell ⟨g, k * 8 + 1, none⟩ a1).setCell ⟨g, k * 8 + 2, none⟩ a2).setCell ⟨g, k * 8 + 3, none⟩ a3).setCell ⟨g, k * 8 + 4, none⟩ a4).setCell ⟨g, k * 8 + 5, none⟩ a5).setCell ⟨g, k * 8 + 6, none⟩ a6).setCell ⟨g, k * 8 + 7, none⟩ a7).ownsRow base e 8 (.slice (some ⟨g, 0, none⟩) n c) n ((xs.set k y).flatMap enc) := by
  have h1 := ((((((((h.stored (k * 8) a0).1.stored (k * 8 + 1) a1).1.stored (k * 8 + 2) a2).1.stored (k * 8 + 3) a3).1.stored (k * 8 + 4) a4).1.stored (k * 8 + 5) a5).1.stored (k * 8 + 6) a6).1.stored (k * 8 + 7) a7).1
  have := flatMap_set he xs k hk y
  rw [hy] at this
  rw [← this]
  exact h1

theorem FrameR.drew {w : World} {f : LFrame} (h : FrameR p w f) : FrameR p w.drew f := FrameR.below h (Below.refl w.heap.size w).drew
/-! ### hosts -/
/-- The place lies in a block from lo on, below hi. -/
def InA (lo hi : Nat) (A : Option Addr) : Prop := ∀ a, A = some a → lo ≤ a.block ∧ a.block < hi
theorem InA.none (lo hi : Nat) : InA lo hi none := fun a h => by cases h
theorem InA.mono {lo hi lo' hi' : Nat} {A : Option Addr} (h : InA lo hi A) (h1 : lo' ≤ lo) (h2 : hi ≤ hi') : InA lo' hi' A := fun a ha => by have := h a ha; omega
theorem own_in {w : World} {base n : Nat} {e : TypeId} {size m c : Nat} {A : Option Addr} {xs : List Value} (h : w.ownsRow base e size (.slice A m c) n xs) : InA base w.heap.size A :=
  fun a ha => ⟨own_ge h (by rw [ha]; rfl), own_lt h (by rw [ha]; rfl)⟩
/-- No two of the places lie in one block. -/
def Ap {α : Type} (f : α → Option Addr) (xs : List α) : Prop := xs.Pairwise fun x y => ∀ a b, f x = some a → f y = some b → a.block ≠ b.block
theorem ap_set {α : Type} {f : α → Option Addr} {lo hi hi' : Nat} {y : α} : ∀ {xs : List α} {k : Nat}, Ap f xs → (∀ x ∈ xs, InA lo hi (f x)) → InA hi hi' (f y) → Ap f (xs.set k y)
  | [], _, _, _, _ => by simp [Ap]
  | x :: xs, 0, h, hx, hy => by
    have h' := List.pairwise_cons.1 h
    exact List.pairwise_cons.2 ⟨fun z hz a b ha hb => by have := hx z (List.mem_cons_of_mem _ hz) b hb; have := hy a ha; omega, h'.2⟩
  | x :: xs, k + 1, h, hx, hy => by
    have h' := List.pairwise_cons.1 h
    refine List.pairwise_cons.2 ⟨fun z hz a b ha hb => ?_, ap_set h'.2 (fun z hz => hx z (List.mem_cons_of_mem _ hz)) hy⟩
    rcases List.mem_or_eq_of_mem_set hz with hz | rfl
    · exact h'.1 z hz a b ha hb
    · have := hx x List.mem_cons_self a ha; have := hy b hb; omega
theorem ap_rep {α : Type} {f : α → Option Addr} (n : Nat) (z : α) (hz : f z = none) : Ap f (List.replicate n z) := by
  unfold Ap
  rw [List.pairwise_replicate]
  exact .inr fun a b ha => by rw [hz] at ha; cases ha
structure HostIn (n m : Nat) (h : LHost) : Prop where
  f : InA n m h.fA
  b : InA n m h.bA
  q : InA n m h.qA
  e : InA n m h.eA
  bd : ∀ x ∈ h.boxes, InA n m x.f.A
  qd : ∀ x ∈ h.fifo, InA n m x.A
  ed : ∀ x ∈ h.queue, InA n m x.f.A
/-- No two frames of the host share their bytes. -/
structure HostAp (h : LHost) : Prop where
  b : Ap (fun x : LBox => x.f.A) h.boxes
  q : Ap (fun x : LFrame => x.A) h.fifo
  e : Ap (fun x : LEvent => x.f.A) h.queue
  bq : ∀ x ∈ h.boxes, ∀ y ∈ h.fifo, ∀ a b, x.f.A = some a → y.A = some b → a.block ≠ b.block
  be : ∀ x ∈ h.boxes, ∀ y ∈ h.queue, ∀ a b, x.f.A = some a → y.f.A = some b → a.block ≠ b.block
  qe : ∀ x ∈ h.fifo, ∀ y ∈ h.queue, ∀ a b, x.A = some a → y.f.A = some b → a.block ≠ b.block
/-- Everything in a host is of a size that can be counted. -/
structure HostSz (h : LHost) : Prop where
  f : h.filters.length ≤ 4194304
  b : h.boxes.length ≤ 4194304
  q : h.fifo.length ≤ 4194304
  e : h.queue.length ≤ 4194304
  bd : ∀ x ∈ h.boxes, x.f.data.length ≤ 4194304
  qd : ∀ x ∈ h.fifo, x.data.length ≤ 4194304
  ed : ∀ x ∈ h.queue, x.f.data.length ≤ 4194304
theorem BoxesR.chg {w w' : World} {S : Nat → Prop} {e : TypeId} {A : Option Addr} {xs : List LBox} (h : BoxesR p w e A xs) (c : Chg S w w') (ha : ∀ a, A = some a → ¬ S a.block) (hd : ∀ x ∈ xs, ∀ a, x.f.A = some a → ¬ S a.block) : BoxesR p w' e A xs := ⟨Cells.chg h.1 c ha, fun x hx => Cells.chg (h.2 x hx) c (hd x hx)⟩
theorem FramesR.chg {w w' : World} {S : Nat → Prop} {e : TypeId} {A : Option Addr} {xs : List LFrame} (h : FramesR p w e A xs) (c : Chg S w w') (ha : ∀ a, A = some a → ¬ S a.block) (hd : ∀ x ∈ xs, ∀ a, x.A = some a → ¬ S a.block) : FramesR p w' e A xs := ⟨Cells.chg h.1 c ha, fun x hx => Cells.chg (h.2 x hx) c (hd x hx)⟩
theorem EventsR.chg {w w' : World} {S : Nat → Prop} {e : TypeId} {A : Option Addr} {xs : List LEvent} (h : EventsR p w e A xs) (c : Chg S w w') (ha : ∀ a, A = some a → ¬ S a.block) (hd : ∀ x ∈ xs, ∀ a, x.f.A = some a → ¬ S a.block) : EventsR p w' e A xs := ⟨Cells.chg h.1 c ha, fun x hx => Cells.chg (h.2 x hx) c (hd x hx)⟩
theorem HostR.chg {tf tb tq te : TypeId} {w w' : World} {S : Nat → Prop} {n m : Nat} {h : LHost} (H : HostR p tf tb tq te w h) (c : Chg S w w') (G : HostIn n m h) (hs : ∀ k, n ≤ k → k < m → ¬ S k) : HostR p tf tb tq te w' h :=
  ⟨Cells.chg H.f c (fun a ha => hs _ (G.f a ha).1 (G.f a ha).2), H.b.chg c (fun a ha => hs _ (G.b a ha).1 (G.b a ha).2) (fun x hx a ha => hs _ (G.bd x hx a ha).1 (G.bd x hx a ha).2), H.q.chg c (fun a ha => hs _ (G.q a ha).1 (G.q a ha).2) (fun x hx a ha => hs _ (G.qd x hx a ha).1 (G.qd x hx a ha).2), H.e.chg c (fun a ha => hs _ (G.e a ha).1 (G.e a ha).2) (fun x hx a ha => hs _ (G.ed x hx a ha).1 (G.ed x hx a ha).2)⟩
theorem HostIn.mono {n m n' m' : Nat} {h : LHost} (G : HostIn n m h) (h1 : n' ≤ n) (h2 : m ≤ m') : HostIn n' m' h :=
  ⟨G.f.mono h1 h2, G.b.mono h1 h2, G.q.mono h1 h2, G.e.mono h1 h2, fun x hx => (G.bd x hx).mono h1 h2, fun x hx => (G.qd x hx).mono h1 h2, fun x hx => (G.ed x hx).mono h1 h2⟩

theorem infoByte : (Try.prog.info? 5).map (fun i => (i.zero, i.size, i.bytes)) = some (some (.int .u8 0), 1, 1) := by kernel_rfl
theorem infoFrame : (Try.prog.info? 49).map (fun i => (i.zero, i.size, i.bytes)) = some (some (.agg #[.bool false, .int .u32 0, .bool false, .int .i64 0, .slice none 0 0]), 5, 48) := by kernel_rfl
theorem infoBox : (Try.prog.info? 98).map (fun i => (i.zero, i.size, i.bytes)) = some (some (.agg #[.int .i64 0, .int .i64 0, .int .i64 0, .bool false, .int .u32 0, .bool false, .int .i64 0, .slice none 0 0]), 8, 72) := by kernel_rfl
theorem infoEvent : (Try.prog.info? 95).map (fun i => (i.zero, i.size, i.bytes)) = some (some (.agg #[.int .i64 0, .int .i64 0, .int .i64 0, .bool false, .int .u32 0, .bool false, .int .i64 0, .slice none 0 0]), 8, 72) := by kernel_rfl
theorem infoFilter : (Try.prog.info? 102).map (fun i => (i.zero, i.size, i.bytes)) = some (some (.agg #[.bool false, .int .u32 0, .int .u32 0]), 3, 12) := by kernel_rfl

end Go.Proofs.Ytcfhjmflnochcaa
