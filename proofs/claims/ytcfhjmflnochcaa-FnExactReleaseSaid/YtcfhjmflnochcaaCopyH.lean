/-
  The reference's copy of a whole host: new memory of its own that reads as what was copied.
-/
import Derived.Test.YtcfhjmflnochcaaCopyS
import Derived.Test.YtcfhjmflnochcaaOkH
import Derived.Deep.RegionLaw
set_option linter.unusedVariables false
set_option linter.unusedSimpArgs false
namespace Go.Proofs.Ytcfhjmflnochcaa
open Go.RowKit
variable {p q : Prop}

/-- A row of elements with data of their own, all in blocks of B. -/
structure Row {α : Type} (enc : α → List Value) (fr : α → LFrame) (e : TypeId) (size : Nat) (B : Nat → Prop) (w : World) (A : Option Addr) (c : Nat) (ys : List α) : Prop where
  own : w.ownsRow 0 e size (.slice A ys.length c) ys.length (ys.flatMap enc)
  at_ : ∀ g, (Value.slice A ys.length c).ownBlock = some g → B g
  R : ∀ z ∈ ys, FrameR True w (fr z)
  I : ∀ z ∈ ys, ∀ a, (fr z).A = some a → B a.block ∧ a.block < w.heap.size
section
variable {α : Type} {enc : α → List Value} {fr : α → LFrame} {e e' : TypeId} {size : Nat} {B B' : Nat → Prop} {w w' : World} {A A' : Option Addr} {c c' : Nat} {ys : List α}
theorem Row.chg {S : Nat → Prop} (h : Row enc fr e size B w A c ys) (k : Chg S w w') (hs : ∀ b, B b → b < w.heap.size → ¬ S b) : Row enc fr e size B w' A c ys :=
  ⟨own_chg h.own k fun g hg => hs g (h.at_ g hg) (own_lt h.own hg), h.at_, fun z hz => Cells.chg (h.R z hz) k fun a ha => hs _ (h.I z hz a ha).1 (h.I z hz a ha).2, fun z hz a ha => ⟨(h.I z hz a ha).1, Nat.lt_of_lt_of_le (h.I z hz a ha).2 k.size⟩⟩
theorem Row.below (h : Row enc fr e size B w A c ys) (k : Below w.heap.size w w') : Row enc fr e size B w' A c ys := h.chg (Chg.of_below k (fun _ => False)) (fun _ _ _ f => f)
theorem Row.mono (h : Row enc fr e size B w A c ys) (hb : ∀ b, B b → b < w.heap.size → B' b) : Row enc fr e size B' w A c ys :=
  ⟨h.own, fun g hg => hb g (h.at_ g hg) (own_lt h.own hg), h.R, fun z hz a ha => ⟨hb _ (h.I z hz a ha).1 (h.I z hz a ha).2, (h.I z hz a ha).2⟩⟩
/-- What another row's growing does to a row: nothing, if the rows' types differ. -/
theorem Row.grown (h : Row enc fr e size B w A c ys) {base' size' n : Nat} {v : Value} {xs : List Value} (hg : w.grownBy w' v.ownBlock) (ho : w.ownsRow base' e' size' v n xs) (hne : e ≠ e') (hu : 5 ≠ e') : Row enc fr e size B w' A c ys :=
  ⟨own_keep h.own fun g hg' hl => hg.block g hl fun he => by
      obtain ⟨c1, h1⟩ := own_type h.own hg'
      obtain ⟨c2, h2⟩ := own_type ho he.symm
      rw [h1] at h2; injection h2 with h2; injection h2 with _ h2; exact hne h2,
   h.at_, fun z hz => Cells.grownTy (h.R z hz) hg ho hu, fun z hz a ha => ⟨(h.I z hz a ha).1, Nat.lt_of_lt_of_le (h.I z hz a ha).2 hg.size⟩⟩
theorem loc_of {v v' : Value} {n : Nat} (h : v'.ownBlock = v.ownBlock ∨ v'.ownBlock = some n) (hn : B n) (hv : ∀ g, v.ownBlock = some g → B g) : ∀ g, v'.ownBlock = some g → B g := fun g hg => by
  rcases h with h | h
  · exact hv g (h ▸ hg)
  · rw [h] at hg; injection hg with hg; exact hg ▸ hn
/-- A row behind an append to it. -/
theorem Row.snoc (h : Row enc fr e size B w A c ys) (y : α)
    (ho : w'.ownsRow 0 e size (.slice A' (ys.length + 1) c') (ys.length + 1) (ys.flatMap enc ++ enc y)) (hg : w.grownBy w' (Value.slice A ys.length c).ownBlock)
    {n : Nat} (hl : (Value.slice A' (ys.length + 1) c').ownBlock = (Value.slice A ys.length c).ownBlock ∨ (Value.slice A' (ys.length + 1) c').ownBlock = some n) (hn : B n)
    (hu : 5 ≠ e) (hR : FrameR True w (fr y)) (hI : ∀ a, (fr y).A = some a → B a.block ∧ a.block < w.heap.size) : Row enc fr e size B w' A' c' (ys ++ [y]) := by
  refine ⟨?_, ?_, fun z hz => ?_, fun z hz => ?_⟩
  · rw [snoc_flat]; simpa only [List.length_append, List.length_singleton] using ho
  · simp only [List.length_append, List.length_singleton]; exact loc_of hl hn h.at_
  · refine Cells.grownTy ?_ hg h.own hu
    rcases List.mem_append.1 hz with hz | hz
    · exact h.R z hz
    · exact (List.mem_singleton.1 hz) ▸ hR
  · intro a ha
    refine (fun hp : B a.block ∧ a.block < w.heap.size => ⟨hp.1, Nat.lt_of_lt_of_le hp.2 hg.size⟩) ?_
    rcases List.mem_append.1 hz with hz | hz
    · exact h.I z hz a ha
    · exact hI a ((List.mem_singleton.1 hz) ▸ ha)
theorem Row.nil (h : w.ownsRow 0 e size (.slice A 0 c) 0 []) (ha : ∀ g, (Value.slice A 0 c).ownBlock = some g → B g) : Row enc fr e size B w A c ([] : List α) := ⟨h, ha, fun _ h => absurd h List.not_mem_nil, fun _ h => absurd h List.not_mem_nil⟩
end
theorem own_grown {e e' : TypeId} {size base n m : Nat} {w w' : World} {v v' : Value} {ys xs : List Value} {base' size' : Nat} (h : w.ownsRow base e size v m ys) (hg : w.grownBy w' v'.ownBlock) (ho : w.ownsRow base' e' size' v' n xs) (hne : e ≠ e') : w'.ownsRow base e size v m ys :=
  own_keep h fun g hg' hl => hg.block g hl fun he => by
      obtain ⟨c1, h1⟩ := own_type h hg'
      obtain ⟨c2, h2⟩ := own_type ho he.symm
      rw [h1] at h2; injection h2 with h2; injection h2 with _ h2; exact hne h2
/-- Filters have no data. -/
def noFrame (_ : DFilter) : LFrame := ⟨false, 0, false, 0, none, 0, []⟩
theorem Row.filters {B : Nat → Prop} {w : World} {A : Option Addr} {c base : Nat} {fs : List DFilter} (h : w.ownsRow base 102 3 (.slice A fs.length c) fs.length (fs.flatMap DFilter.cs)) (hb : ∀ b, base ≤ b → b < w.heap.size → B b) : Row DFilter.cs noFrame 102 3 B w A c fs :=
  ⟨own_base h (fun _ _ => Nat.zero_le _), fun g hg => hb g (own_ge h hg) (own_lt h hg), fun _ _ => .inl rfl, fun _ _ a ha => by cases ha⟩

/-- A host that owns its memory, in blocks of B. -/
structure OwnHost (B : Nat → Prop) (w : World) (x : LHost) : Prop where
  f : Row DFilter.cs noFrame 102 3 B w x.fA x.fc x.filters
  b : Row LBox.cs LBox.f 98 8 B w x.bA x.bc x.boxes
  q : Row LFrame.cs id 49 5 B w x.qA x.qc x.fifo
  e : Row LEvent.cs LEvent.f 95 8 B w x.eA x.ec x.queue

theorem OwnHost.hostR {B : Nat → Prop} {w : World} {x : LHost} (h : OwnHost B w x) : IHostR True w x := ⟨own_cells h.f.own, ⟨own_cells h.b.own, h.b.R⟩, ⟨own_cells h.q.own, h.q.R⟩, ⟨own_cells h.e.own, h.e.R⟩⟩
theorem Row.inA {α : Type} {enc : α → List Value} {fr : α → LFrame} {e : TypeId} {size n : Nat} {w : World} {A : Option Addr} {c : Nat} {ys : List α} (h : Row enc fr e size (fun b => n ≤ b) w A c ys) : InA n w.heap.size A := fun a ha => by
  obtain ⟨k1, k2⟩ := own_in h.own a ha
  refine ⟨?_, k2⟩
  subst ha
  exact h.at_ _ rfl
theorem OwnHost.hostIn {n : Nat} {w : World} {x : LHost} (h : OwnHost (fun b => n ≤ b) w x) : HostIn n w.heap.size x := ⟨h.f.inA, h.b.inA, h.q.inA, h.e.inA, h.b.I, h.q.I, h.e.I⟩
/-- What leaves the blocks of B alone keeps the host. -/
theorem OwnHost.chg {B : Nat → Prop} {w w' : World} {S : Nat → Prop} {x : LHost} (h : OwnHost B w x) (c : Chg S w w') (hs : ∀ b, B b → b < w.heap.size → ¬ S b) : OwnHost B w' x :=
  ⟨h.f.chg c hs, h.b.chg c hs, h.q.chg c hs, h.e.chg c hs⟩
theorem OwnHost.below {B : Nat → Prop} {w w' : World} {x : LHost} (h : OwnHost B w x) (k : Below w.heap.size w w') : OwnHost B w' x := h.chg (Chg.of_below k (fun _ => False)) (fun _ _ _ f => f)
theorem OwnHost.mono {B B' : Nat → Prop} {w : World} {x : LHost} (h : OwnHost B w x) (hb : ∀ b, B b → b < w.heap.size → B' b) : OwnHost B' w x := ⟨h.f.mono hb, h.b.mono hb, h.q.mono hb, h.e.mono hb⟩

/-- The cells of a host's block. -/
def hc (cfg : DConfig) (f b q e : Value) (lost stamp : Int) : Array Value := #[.int .i64 cfg.boxes, .int .i64 cfg.fifo, .int .i64 cfg.policy, .int .i64 cfg.events, f, b, q, e, .int .i64 lost, .int .i64 stamp]
def hzero : Array Value := #[.int .i64 0, .int .i64 0, .int .i64 0, .int .i64 0, .slice none 0 0, .slice none 0 0, .slice none 0 0, .slice none 0 0, .int .i64 0, .int .i64 0]

theorem Chg.cell {S : Nat → Prop} {w w' : World} (h : Chg S w w') {a : Addr} (hl : a.block < w.heap.size) (hs : ¬ S a.block) : w'.cell? a = w.cell? a := World.cell?_of_block (w := w) (h.block a.block hl hs)
set_option maxHeartbeats 4000000 in
set_option maxRecDepth 100000 in
theorem l3copy_any (w : World) (h : LHost) (hz : HostSz h) (a1 a2 a3 a4 : TypeId) (H : HostR p a1 a2 a3 a4 w h) :
    Calls Try.prog 27 #[.agg #[.int .i64 h.cfg.boxes, .int .i64 h.cfg.fifo, .int .i64 h.cfg.policy, .int .i64 h.cfg.events, .slice h.fA h.filters.length h.fc, .slice h.bA h.boxes.length h.bc, .slice h.qA h.fifo.length h.qc, .slice h.eA h.queue.length h.ec, .int .i64 h.lost, .int .i64 h.stamp]] w (Ret (fun x : LHost => .agg #[.int .i64 x.cfg.boxes, .int .i64 x.cfg.fifo, .int .i64 x.cfg.policy, .int .i64 x.cfg.events, .slice x.fA x.filters.length x.fc, .slice x.bA x.boxes.length x.bc, .slice x.qA x.fifo.length x.qc, .slice x.eA x.queue.length x.ec, .int .i64 x.lost, .int .i64 x.stamp])
      fun x w' => x.d = h.d ∧ OwnHost (fun b => w.heap.size ≤ b) w' x ∧ Below w.heap.size w w') := by
  have R : Hid _ := fun W (k : Below w.heap.size w W) => H.below k
  clear H
  have hzf := hz.f
  have hzb := hz.b
  have hzq := hz.q
  have hze := hz.e
  go_enter Try.func27, Try.ntmps27
  go_wp2_with fail
  go_loopw [4] (fun i wr => ∃ (k : Nat) (A : Option Addr) (c : Nat), k ≤ h.filters.length ∧ i = .int .i64 k ∧ wr.heap[w.heap.size]? = some (.cells (hostCells h) 37 (0, 0)) ∧ wr.heap[w.heap.size + 1]? = some (.cells hzero 37 (0, 0)) ∧ wr.heap[w.heap.size + 2]? = some (.cells (hc h.cfg (.slice A k c) (.slice h.bA h.boxes.length h.bc) (.slice h.qA h.fifo.length h.qc) (.slice h.eA h.queue.length h.ec) h.lost h.stamp) 37 (0, 0)) ∧
     wr.ownsRow (w.heap.size + 3) 102 3 (.slice A k c) k ((h.filters.take k).flatMap DFilter.cs) ∧ Below w.heap.size w wr) (fun i _ => h.filters.length - (intOf i).toNat)
  case atStart => exact ⟨0, _, _, by omega, rfl, heap_old _ (heap_old _ (heap_old _ (heap_new _ _ rfl))), heap_old _ (heap_old _ (heap_new _ _ (by simp))), heap_old _ (heap_new _ _ (by simp)), own_empty _ _ _ _ (by simp) _ (by simp), (by repeat first | with_reducible exact Below.refl _ _ | with_reducible assumption | with_reducible refine bl_alloc ?_ _ | with_reducible refine bl_drewN ?_ _ | with_reducible refine Below.drew ?_ | (refine bl_set ?_ (by simp <;> omega) _))⟩
  case round =>
    obtain ⟨k, A, c, hk, rfl, hh0, hh1, hh2, hown, hb⟩ := hrel
    obtain ⟨c0, c1, c2, c3, c4, c5, c6, c7, c8, c9, cf⟩ := ten hh0
    obtain ⟨d0, d1, d2, d3, d4, d5, d6, d7, d8, d9, df⟩ := ten hh2
    have z2 := lt_of_heap hh2
    have H0 : Hid _ := hh0
    have H1 : Hid _ := hh1
    have H2 : Hid _ := hh2
    have HO : Hid _ := hown
    clear hh0 hh1 hh2 hown
    by_cases hlt : k < h.filters.length
    · obtain ⟨g, o, hA, hg, ⟨e0, e1, e2⟩⟩ := filterAt (R.out wr hb).f k hlt
      obtain ⟨g', o', hA', hg', _⟩ := filterAt (R.out w (Below.refl _ _)).f k hlt
      rw [hA] at hA'
      injection hA' with hA'
      injection hA' with hA1 hA2 _
      subst hA1
      clear hA2
      rw [hA] at c4
      have HA : Hid _ := hA
      obtain ⟨x, hx⟩ : ∃ x, x = h.filters[k] := ⟨_, rfl⟩
      rw [← hx] at e0 e1 e2
      have HX : Hid _ := hx
      clear hx hA
      go_wp2_with fail
      go_region_law
        ((refine step_app _ rfl (.tmp 18) (.tmp 24) 32 rfl (w.heap.size + 3) 102 _ 3 12 Try.underlying32 infoFilter rfl (by omega) (by omega) _ k _ rfl (by exact own_chg (S := fun _ => False) HO.out (by repeat first | with_reducible exact Chg.refl _ _ | with_reducible assumption | with_reducible refine Chg.alloc ?_ _ | with_reducible refine Chg.drewN ?_ _ | with_reducible refine Chg.drew ?_ | (refine Chg.set ?_ (by simp <;> omega) _)) (fun _ _ h => h)) 102 _ 1 1 x.cs rfl (by exact cells_new _ [_, _, _] _ _ (by simp)) rfl (one_filter _) (by omega) (by simp; omega) ?_
          intro A2 c2 w2 hown2 hgrow hloc
          have hch2 : Chg (fun b => w.heap.size + 2 ≤ b) wr w2 := Chg.trans (by exact (by repeat first | with_reducible exact Chg.refl _ _ | with_reducible assumption | with_reducible refine Chg.alloc ?_ _ | with_reducible refine Chg.drewN ?_ _ | with_reducible refine Chg.drew ?_ | (refine Chg.set ?_ (by simp <;> omega) _))) (Chg.grown hgrow (fun g hg _ => by have := own_ge HO.out hg; omega)) (fun _ _ h => h)
          have hg2 := heap_grown hgrow (heap_old _ H2.out) (fun e => by have := own_ge HO.out e.symm; omega)
          obtain ⟨_, _, _, _, t4, _, _, _, _, _, tf⟩ := ten hg2
          have G2 : Hid _ := hg2
          have zg2 := lt_of_heap hg2
          clear hg2))
      all_goals (
        clear c0 c1 c3 c4 c5 c6 c7 c8 c9 cf e0 e1 e2
        rw [HX.out, ← take_flat hlt] at hown2
        have HO2 : Hid _ := hown2
        clear hown2 hgrow hloc
        have hb2 : Below w.heap.size w w2 := bl_chg hb hch2 (fun b hb => by omega)
        go_wp2_with fail
        go_roundw
        case rel => exact ⟨k + 1, A2, c2, by omega, by go_num, heap_far (heap_chg hch2 H0.out (by omega)) (by simp <;> omega), heap_far (heap_chg hch2 H1.out (by omega)) (by simp <;> omega), heap_set (j := 4) (v := .slice A2 (k + 1) c2) G2.out rfl, own_chg (S := fun b => b = w.heap.size + 2) HO2.out (by repeat first | with_reducible exact Chg.refl _ _ | with_reducible assumption | with_reducible refine Chg.alloc ?_ _ | with_reducible refine Chg.drewN ?_ _ | with_reducible refine Chg.drew ?_ | (refine Chg.set ?_ (by simp <;> omega) _)) (fun g hg => by have := own_ge HO2.out hg; omega), (by repeat first | with_reducible exact Below.refl _ _ | with_reducible assumption | with_reducible refine bl_alloc ?_ _ | with_reducible refine bl_drewN ?_ _ | with_reducible refine Below.drew ?_ | (refine bl_set ?_ (by simp <;> omega) _))⟩
        case measure => simp [intOf]; omega)
    · have ek : k = h.filters.length := by omega
      subst ek
      rw [List.take_length] at HO
      clear hlt
      obtain ⟨A1, eA⟩ : ∃ y, y = A := ⟨_, rfl⟩
      subst eA
      obtain ⟨k1, ec⟩ : ∃ y, y = c := ⟨_, rfl⟩
      subst ec
      go_wp2_with fail
      go_loopw [5] (fun i wr => ∃ (A : Option Addr) (c : Nat) (ys : List LBox), ys.length ≤ h.boxes.length ∧ i = .int .i64 ys.length ∧ wr.heap[w.heap.size]? = some (.cells (hostCells h) 37 (0, 0)) ∧ wr.heap[w.heap.size + 1]? = some (.cells hzero 37 (0, 0)) ∧ wr.heap[w.heap.size + 2]? = some (.cells (hc h.cfg (.slice A1 h.filters.length k1) (.slice A ys.length c) (.slice h.qA h.fifo.length h.qc) (.slice h.eA h.queue.length h.ec) h.lost h.stamp) 37 (0, 0)) ∧ Hid (wr.ownsRow (w.heap.size + 3) 102 3 (.slice A1 h.filters.length k1) h.filters.length (h.filters.flatMap DFilter.cs)) ∧ Hid (Row LBox.cs LBox.f 98 8 (fun b => w.heap.size + 3 ≤ b) wr A c ys) ∧ Hid (ys.map LBox.d = (h.boxes.take ys.length).map LBox.d) ∧ Below w.heap.size w wr) (fun i _ => h.boxes.length - (intOf i).toNat)
      case atStart => exact ⟨_, _, [], by simp, rfl, heap_old _ (heap_far H0.out (by simp <;> omega)), heap_old _ (heap_far H1.out (by simp <;> omega)), heap_old _ (heap_set (j := 5) (v := .slice (some ⟨wr.heap.size, 0, none⟩) 0 0) H2.out rfl), (own_chg (S := fun b => b = w.heap.size + 2) HO.out (by repeat first | with_reducible exact Chg.refl _ _ | with_reducible assumption | with_reducible refine Chg.alloc ?_ _ | with_reducible refine Chg.drewN ?_ _ | with_reducible refine Chg.drew ?_ | (refine Chg.set ?_ (by simp <;> omega) _)) (fun g hg => by have := own_ge HO.out hg; omega)), Row.nil (own_empty _ _ _ _ (Nat.zero_le _) _ (by simp)) (fun g hg => by simp [Value.ownBlock] at hg; omega), by simp [Hid], (by repeat first | with_reducible exact Below.refl _ _ | with_reducible assumption | with_reducible refine bl_alloc ?_ _ | with_reducible refine bl_drewN ?_ _ | with_reducible refine Below.drew ?_ | (refine bl_set ?_ (by simp <;> omega) _))⟩
      case round =>
        clear HO H0 H1 H2 hb d0 d1 d2 d3 d4 d5 d6 d7 d8 d9 df c0 c2 c3 c4 c5 c6 c7 c8 c9 cf z2
        obtain ⟨A, c, ys, hk, rfl, hh0, hh1, hh2, HF0, HR, hm, hb⟩ := hrel
        obtain ⟨c0, c1, c2, c3, c4, c5, c6, c7, c8, c9, cf⟩ := ten hh0
        obtain ⟨d0, d1, d2, d3, d4, d5, d6, d7, d8, d9, df⟩ := ten hh2
        have z2 := lt_of_heap hh2
        have H0 : Hid _ := hh0
        have H1 : Hid _ := hh1
        have H2 : Hid _ := hh2
        clear hh0 hh1 hh2
        by_cases hlt : ys.length < h.boxes.length
        · obtain ⟨g, o, hA, hg, ⟨e0, e1, e2, e3, e4, e5, e6, e7⟩⟩ := boxAt (R.out wr hb).b.1 ys.length hlt
          obtain ⟨g', o', hA', hg', _⟩ := boxAt (R.out w (Below.refl _ _)).b.1 ys.length hlt
          rw [hA] at hA'
          injection hA' with hA'
          injection hA' with hA1 hA2 _
          subst hA1
          clear hA2
          rw [hA] at c5
          have HA : Hid _ := hA
          have HF : Hid _ := (R.out wr hb).b.2 _ (List.getElem_mem hlt)
          have HD : Hid _ := hz.bd _ (List.getElem_mem hlt)
          obtain ⟨x, hx⟩ : ∃ x, x = h.boxes[ys.length] := ⟨_, rfl⟩
          rw [← hx] at e0 e1 e2 e3 e4 e5 e6 e7 HF HD
          have HX : Hid _ := hx
          clear hx hA
          go_wp2_with fail
          go_region_law
            (first
              | (refine step_app _ rfl (.tmp 37) (.tmp 44) 33 rfl 0 98 _ 8 72 Try.underlying33 infoBox rfl (by omega) (by omega) _ ys.length _ rfl (by exact own_chg (S := fun _ => False) HR1.out.own (by repeat first | with_reducible exact Chg.refl _ _ | with_reducible assumption | with_reducible refine Chg.alloc ?_ _ | with_reducible refine Chg.drewN ?_ _ | with_reducible refine Chg.drew ?_ | (refine Chg.set ?_ (by simp <;> omega) _)) (fun _ _ h => h)) 98 _ 1 1 y.cs rfl (by rw [HY.out]; exact cells_new _ [_, _, _, _, _, _, _, _] _ _ (by simp)) rfl (one_box _) (by omega) (Nat.zero_le _) ?_
                 intro A2 c2 w2 hown2 hgrow hloc
                 have hch2 : Chg (fun b => w.heap.size + 2 ≤ b) wr w2 := Chg.trans (by exact (by repeat first | with_reducible exact Chg.refl _ _ | with_reducible assumption | with_reducible refine Chg.alloc ?_ _ | with_reducible refine Chg.drewN ?_ _ | with_reducible refine Chg.drew ?_ | (refine Chg.set ?_ (by simp <;> omega) _))) (Chg.grown hgrow (fun g hg _ => by have := HR1.out.at_ g hg; omega)) (fun _ _ h => h)
                 have hg2 := heap_grown hgrow (heap_old _ G1.out) (fun e => by have := HR1.out.at_ _ e.symm; omega)
                 have HR2 : Hid (Row LBox.cs LBox.f 98 8 (fun b => w.heap.size + 3 ≤ b) w2 A2 c2 (ys ++ [y])) := Row.snoc (hg := hgrow) (hl := hloc) (hn := by simp; omega) (h := by exact HR1.out.chg (S := fun _ => False) (by repeat first | with_reducible exact Chg.refl _ _ | with_reducible assumption | with_reducible refine Chg.alloc ?_ _ | with_reducible refine Chg.drewN ?_ _ | with_reducible refine Chg.drew ?_ | (refine Chg.set ?_ (by simp <;> omega) _)) (fun _ _ _ h => h)) (y := y) (ho := hown2) (hu := by decide) (hR := by rw [HY.out]; exact Cells.chg (S := fun _ => False) R1.out (by repeat first | with_reducible exact Chg.refl _ _ | with_reducible assumption | with_reducible refine Chg.alloc ?_ _ | with_reducible refine Chg.drewN ?_ _ | with_reducible refine Chg.drew ?_ | (refine Chg.set ?_ (by simp <;> omega) _)) (fun _ _ h => h)) (hI := by rw [HY.out]; exact fun a ha => by have := I1.out a ha; simp; omega)
                 have HF02 : Hid (w2.ownsRow (w.heap.size + 3) 102 3 (.slice A1 h.filters.length k1) h.filters.length (h.filters.flatMap DFilter.cs)) := own_grown (hg := hgrow) (h := by exact own_chg (S := fun _ => False) HF01.out (by repeat first | with_reducible exact Chg.refl _ _ | with_reducible assumption | with_reducible refine Chg.alloc ?_ _ | with_reducible refine Chg.drewN ?_ _ | with_reducible refine Chg.drew ?_ | (refine Chg.set ?_ (by simp <;> omega) _)) (fun _ _ h => h)) (ho := by exact own_chg (S := fun _ => False) HR1.out.own (by repeat first | with_reducible exact Chg.refl _ _ | with_reducible assumption | with_reducible refine Chg.alloc ?_ _ | with_reducible refine Chg.drewN ?_ _ | with_reducible refine Chg.drew ?_ | (refine Chg.set ?_ (by simp <;> omega) _)) (fun _ _ h => h)) (hne := by decide)
                 obtain ⟨_, _, _, _, _, t5, t6, _, _, _, tf⟩ := ten hg2
                 have G2 : Hid _ := hg2
                 have zg2 := lt_of_heap hg2
                 clear hg2 hgrow hloc hown2)
              | (go_simp
                 go_at_call 68
                 refine (l3copyBox_any _ x (by have := HD.out; omega) (FrameR.drew HF.out)).mono ?_
                 rintro e w1 ⟨A', c', rfl, R', G', hbb⟩
                 have g1 : Below wr.heap.size wr w1 := bl_then (Below.drew (Below.refl _ _)) hbb
                 have hch1 : Chg (fun b => w.heap.size + 2 ≤ b) wr w1 := Chg.of_below g1 _
                 have hg1 := heap_below g1 H2.out
                 have zz1 := lt_of_heap hg1
                 have HR1 : Hid _ := HR.out.below g1
                 have HF01 : Hid _ := own_below HF0.out g1
                 obtain ⟨_, _, _, _, _, t5, t6, _, _, _, tf⟩ := ten hg1
                 have G1 : Hid _ := hg1
                 have R1 : Hid _ := R'
                 have I1 : Hid (InA (w.heap.size + 3) w1.heap.size A') := fun a ha => by have := G' a ha; simp at this; omega
                 obtain ⟨y, hy⟩ : ∃ y : LBox, y = ⟨x.state, x.tag, x.stamp, ⟨x.f.ext, x.f.id, x.f.rtr, x.f.dlc, A', c', x.f.data⟩⟩ := ⟨_, rfl⟩
                 have HY : Hid _ := hy
                 clear hy R' G' hbb hg1
                 go_wp2_with fail))
          all_goals (
            clear c0 c1 c3 c4 c5 c6 c7 c8 c9 cf e0 e1 e2 e3 e4 e5 e6 e7
            have hb2 : Below w.heap.size w w2 := bl_chg hb hch2 (fun b hb => by omega)
            go_wp2_with fail
            go_roundw
            case rel => exact ⟨A2, c2, ys ++ [y], by simp; omega, by simp, heap_far (heap_chg hch2 H0.out (by omega)) (by simp <;> omega), heap_far (heap_chg hch2 H1.out (by omega)) (by simp <;> omega), by simp only [List.length_append, List.length_singleton]; exact heap_set (j := 5) (v := .slice A2 (ys.length + 1) c2) G2.out rfl, own_chg (S := fun b => b = w.heap.size + 2) HF02.out (by repeat first | with_reducible exact Chg.refl _ _ | with_reducible assumption | with_reducible refine Chg.alloc ?_ _ | with_reducible refine Chg.drewN ?_ _ | with_reducible refine Chg.drew ?_ | (refine Chg.set ?_ (by simp <;> omega) _)) (fun g hg => by have := own_ge HF02.out hg; omega), HR2.out.chg (S := fun b => b = w.heap.size + 2) (by repeat first | with_reducible exact Chg.refl _ _ | with_reducible assumption | with_reducible refine Chg.alloc ?_ _ | with_reducible refine Chg.drewN ?_ _ | with_reducible refine Chg.drew ?_ | (refine Chg.set ?_ (by simp <;> omega) _)) (fun b hb _ => by omega), by simp only [List.length_append, List.length_singleton]; exact snoc_map hlt hm.out (by rw [HY.out, ← HX.out]; rfl), (by repeat first | with_reducible exact Below.refl _ _ | with_reducible assumption | with_reducible refine bl_alloc ?_ _ | with_reducible refine bl_drewN ?_ _ | with_reducible refine Below.drew ?_ | (refine bl_set ?_ (by simp <;> omega) _))⟩
            case measure => simp [intOf]; omega)
        · have ek : ys.length = h.boxes.length := by omega
          have HM : Hid (ys.map LBox.d = h.boxes.map LBox.d) := by have := hm.out; rwa [List.take_of_length_le (by omega)] at this
          have EK : Hid _ := ek
          clear hm
          obtain ⟨bs, eb⟩ : ∃ y, y = ys := ⟨_, rfl⟩
          subst eb
          obtain ⟨A3, eA⟩ : ∃ y, y = A := ⟨_, rfl⟩
          subst eA
          clear hlt
          obtain ⟨k3, ec⟩ : ∃ y, y = c := ⟨_, rfl⟩
          subst ec
          have HMB : Hid _ := HM.out
          have EKB : Hid _ := EK.out
          clear HM EK
          go_wp2_with fail
          clear ek
          go_loopw [6] (fun i wr => ∃ (A : Option Addr) (c : Nat) (ys : List LFrame), ys.length ≤ h.fifo.length ∧ i = .int .i64 ys.length ∧ wr.heap[w.heap.size]? = some (.cells (hostCells h) 37 (0, 0)) ∧ wr.heap[w.heap.size + 1]? = some (.cells hzero 37 (0, 0)) ∧ wr.heap[w.heap.size + 2]? = some (.cells (hc h.cfg (.slice A1 h.filters.length k1) (.slice A3 bs.length k3) (.slice A ys.length c) (.slice h.eA h.queue.length h.ec) h.lost h.stamp) 37 (0, 0)) ∧ Hid (wr.ownsRow (w.heap.size + 3) 102 3 (.slice A1 h.filters.length k1) h.filters.length (h.filters.flatMap DFilter.cs)) ∧ Hid (Row LBox.cs LBox.f 98 8 (fun b => w.heap.size + 3 ≤ b) wr A3 k3 bs) ∧ Hid (Row LFrame.cs id 49 5 (fun b => w.heap.size + 3 ≤ b) wr A c ys) ∧ Hid (ys.map LFrame.d = (h.fifo.take ys.length).map LFrame.d) ∧ Below w.heap.size w wr) (fun i _ => h.fifo.length - (intOf i).toNat)
          case atStart => exact ⟨_, _, [], by simp, rfl, heap_old _ (heap_far H0.out (by simp <;> omega)), heap_old _ (heap_far H1.out (by simp <;> omega)), heap_old _ (heap_set (j := 6) (v := .slice (some ⟨wr.heap.size, 0, none⟩) 0 0) H2.out rfl), (own_chg (S := fun b => b = w.heap.size + 2) HF0.out (by repeat first | with_reducible exact Chg.refl _ _ | with_reducible assumption | with_reducible refine Chg.alloc ?_ _ | with_reducible refine Chg.drewN ?_ _ | with_reducible refine Chg.drew ?_ | (refine Chg.set ?_ (by simp <;> omega) _)) (fun g hg => by have := own_ge HF0.out hg; omega)), HR.out.chg (S := fun b => b = w.heap.size + 2) (by repeat first | with_reducible exact Chg.refl _ _ | with_reducible assumption | with_reducible refine Chg.alloc ?_ _ | with_reducible refine Chg.drewN ?_ _ | with_reducible refine Chg.drew ?_ | (refine Chg.set ?_ (by simp <;> omega) _)) (fun b hb _ => by omega), Row.nil (own_empty _ _ _ _ (Nat.zero_le _) _ (by simp)) (fun g hg => by simp [Value.ownBlock] at hg; omega), by simp [Hid], (by repeat first | with_reducible exact Below.refl _ _ | with_reducible assumption | with_reducible refine bl_alloc ?_ _ | with_reducible refine bl_drewN ?_ _ | with_reducible refine Below.drew ?_ | (refine bl_set ?_ (by simp <;> omega) _))⟩
          case round =>
            clear HF0 HR H0 H1 H2 hb d0 d1 d2 d3 d4 d5 d6 d7 d8 d9 df c0 c1 c2 c3 c4 c5 c6 c7 c8 c9 cf z2
            obtain ⟨A, c, ys, hk, rfl, hh0, hh1, hh2, HF0, HB0, HR, hm, hb⟩ := hrel
            obtain ⟨c0, c1, c2, c3, c4, c5, c6, c7, c8, c9, cf⟩ := ten hh0
            obtain ⟨d0, d1, d2, d3, d4, d5, d6, d7, d8, d9, df⟩ := ten hh2
            have z2 := lt_of_heap hh2
            have H0 : Hid _ := hh0
            have H1 : Hid _ := hh1
            have H2 : Hid _ := hh2
            clear hh0 hh1 hh2
            by_cases hlt : ys.length < h.fifo.length
            · obtain ⟨g, o, hA, hg, ⟨e0, e1, e2, e3, e4⟩⟩ := frameAt (R.out wr hb).q.1 ys.length hlt
              obtain ⟨g', o', hA', hg', _⟩ := frameAt (R.out w (Below.refl _ _)).q.1 ys.length hlt
              rw [hA] at hA'
              injection hA' with hA'
              injection hA' with hA1 hA2 _
              subst hA1
              clear hA2
              rw [hA] at c6
              have HA : Hid _ := hA
              have HF : Hid _ := (R.out wr hb).q.2 _ (List.getElem_mem hlt)
              have HD : Hid _ := hz.qd _ (List.getElem_mem hlt)
              obtain ⟨x, hx⟩ : ∃ x, x = h.fifo[ys.length] := ⟨_, rfl⟩
              rw [← hx] at e0 e1 e2 e3 e4 HF HD
              have HX : Hid _ := hx
              clear hx hA
              go_wp2_with fail
              go_region_law
                (first
                  | (refine step_app _ rfl (.tmp 57) (.tmp 64) 34 rfl 0 49 _ 5 48 Try.underlying34 infoFrame rfl (by omega) (by omega) _ ys.length _ rfl (by exact own_chg (S := fun _ => False) HR1.out.own (by repeat first | with_reducible exact Chg.refl _ _ | with_reducible assumption | with_reducible refine Chg.alloc ?_ _ | with_reducible refine Chg.drewN ?_ _ | with_reducible refine Chg.drew ?_ | (refine Chg.set ?_ (by simp <;> omega) _)) (fun _ _ h => h)) 49 _ 1 1 y.cs rfl (by rw [HY.out]; exact cells_new _ [_, _, _, _, _] _ _ (by simp)) rfl (one_frame _) (by omega) (Nat.zero_le _) ?_
                     intro A2 c2 w2 hown2 hgrow hloc
                     have hch2 : Chg (fun b => w.heap.size + 2 ≤ b) wr w2 := Chg.trans (by exact (by repeat first | with_reducible exact Chg.refl _ _ | with_reducible assumption | with_reducible refine Chg.alloc ?_ _ | with_reducible refine Chg.drewN ?_ _ | with_reducible refine Chg.drew ?_ | (refine Chg.set ?_ (by simp <;> omega) _))) (Chg.grown hgrow (fun g hg _ => by have := HR1.out.at_ g hg; omega)) (fun _ _ h => h)
                     have hg2 := heap_grown hgrow (heap_old _ G1.out) (fun e => by have := HR1.out.at_ _ e.symm; omega)
                     have HR2 : Hid (Row LFrame.cs id 49 5 (fun b => w.heap.size + 3 ≤ b) w2 A2 c2 (ys ++ [y])) := Row.snoc (hg := hgrow) (hl := hloc) (hn := by simp; omega) (h := by exact HR1.out.chg (S := fun _ => False) (by repeat first | with_reducible exact Chg.refl _ _ | with_reducible assumption | with_reducible refine Chg.alloc ?_ _ | with_reducible refine Chg.drewN ?_ _ | with_reducible refine Chg.drew ?_ | (refine Chg.set ?_ (by simp <;> omega) _)) (fun _ _ _ h => h)) (y := y) (ho := hown2) (hu := by decide) (hR := by rw [HY.out]; exact Cells.chg (S := fun _ => False) R1.out (by repeat first | with_reducible exact Chg.refl _ _ | with_reducible assumption | with_reducible refine Chg.alloc ?_ _ | with_reducible refine Chg.drewN ?_ _ | with_reducible refine Chg.drew ?_ | (refine Chg.set ?_ (by simp <;> omega) _)) (fun _ _ h => h)) (hI := by rw [HY.out]; exact fun a ha => by have := I1.out a ha; simp; omega)
                     have HF02 : Hid (w2.ownsRow (w.heap.size + 3) 102 3 (.slice A1 h.filters.length k1) h.filters.length (h.filters.flatMap DFilter.cs)) := own_grown (hg := hgrow) (h := by exact own_chg (S := fun _ => False) HF01.out (by repeat first | with_reducible exact Chg.refl _ _ | with_reducible assumption | with_reducible refine Chg.alloc ?_ _ | with_reducible refine Chg.drewN ?_ _ | with_reducible refine Chg.drew ?_ | (refine Chg.set ?_ (by simp <;> omega) _)) (fun _ _ h => h)) (ho := by exact own_chg (S := fun _ => False) HR1.out.own (by repeat first | with_reducible exact Chg.refl _ _ | with_reducible assumption | with_reducible refine Chg.alloc ?_ _ | with_reducible refine Chg.drewN ?_ _ | with_reducible refine Chg.drew ?_ | (refine Chg.set ?_ (by simp <;> omega) _)) (fun _ _ h => h)) (hne := by decide)
                     have HB02 : Hid (Row LBox.cs LBox.f 98 8 (fun b => w.heap.size + 3 ≤ b) w2 A3 k3 bs) := Row.grown (hg := hgrow) (h := by exact HB01.out.chg (S := fun _ => False) (by repeat first | with_reducible exact Chg.refl _ _ | with_reducible assumption | with_reducible refine Chg.alloc ?_ _ | with_reducible refine Chg.drewN ?_ _ | with_reducible refine Chg.drew ?_ | (refine Chg.set ?_ (by simp <;> omega) _)) (fun _ _ _ h => h)) (ho := by exact own_chg (S := fun _ => False) HR1.out.own (by repeat first | with_reducible exact Chg.refl _ _ | with_reducible assumption | with_reducible refine Chg.alloc ?_ _ | with_reducible refine Chg.drewN ?_ _ | with_reducible refine Chg.drew ?_ | (refine Chg.set ?_ (by simp <;> omega) _)) (fun _ _ h => h)) (hne := by decide) (hu := by decide)
                     obtain ⟨_, _, _, _, _, t5, t6, _, _, _, tf⟩ := ten hg2
                     have G2 : Hid _ := hg2
                     have zg2 := lt_of_heap hg2
                     clear hg2 hgrow hloc hown2)
                  | (go_simp
                     go_at_call 69
                     refine (l1copyFrame_any _ x (by have := HD.out; omega) (FrameR.drew HF.out)).mono ?_
                     rintro e w1 ⟨A', c', rfl, R', G', hbb⟩
                     have g1 : Below wr.heap.size wr w1 := bl_then (Below.drew (Below.refl _ _)) hbb
                     have hch1 : Chg (fun b => w.heap.size + 2 ≤ b) wr w1 := Chg.of_below g1 _
                     have hg1 := heap_below g1 H2.out
                     have zz1 := lt_of_heap hg1
                     have HR1 : Hid _ := HR.out.below g1
                     have HF01 : Hid _ := own_below HF0.out g1
                     have HB01 : Hid _ := HB0.out.below g1
                     obtain ⟨_, _, _, _, _, t5, t6, _, _, _, tf⟩ := ten hg1
                     have G1 : Hid _ := hg1
                     have R1 : Hid _ := R'
                     have I1 : Hid (InA (w.heap.size + 3) w1.heap.size A') := fun a ha => by have := G' a ha; simp at this; omega
                     obtain ⟨y, hy⟩ : ∃ y : LFrame, y = ⟨x.ext, x.id, x.rtr, x.dlc, A', c', x.data⟩ := ⟨_, rfl⟩
                     have HY : Hid _ := hy
                     clear hy R' G' hbb hg1
                     go_wp2_with fail))
              all_goals (
                clear c0 c1 c3 c4 c5 c6 c7 c8 c9 cf e0 e1 e2 e3 e4
                have hb2 : Below w.heap.size w w2 := bl_chg hb hch2 (fun b hb => by omega)
                go_wp2_with fail
                go_roundw
                case rel => exact ⟨A2, c2, ys ++ [y], by simp; omega, by simp, heap_far (heap_chg hch2 H0.out (by omega)) (by simp <;> omega), heap_far (heap_chg hch2 H1.out (by omega)) (by simp <;> omega), by simp only [List.length_append, List.length_singleton]; exact heap_set (j := 6) (v := .slice A2 (ys.length + 1) c2) G2.out rfl, own_chg (S := fun b => b = w.heap.size + 2) HF02.out (by repeat first | with_reducible exact Chg.refl _ _ | with_reducible assumption | with_reducible refine Chg.alloc ?_ _ | with_reducible refine Chg.drewN ?_ _ | with_reducible refine Chg.drew ?_ | (refine Chg.set ?_ (by simp <;> omega) _)) (fun g hg => by have := own_ge HF02.out hg; omega), HB02.out.chg (S := fun b => b = w.heap.size + 2) (by repeat first | with_reducible exact Chg.refl _ _ | with_reducible assumption | with_reducible refine Chg.alloc ?_ _ | with_reducible refine Chg.drewN ?_ _ | with_reducible refine Chg.drew ?_ | (refine Chg.set ?_ (by simp <;> omega) _)) (fun b hb _ => by omega), HR2.out.chg (S := fun b => b = w.heap.size + 2) (by repeat first | with_reducible exact Chg.refl _ _ | with_reducible assumption | with_reducible refine Chg.alloc ?_ _ | with_reducible refine Chg.drewN ?_ _ | with_reducible refine Chg.drew ?_ | (refine Chg.set ?_ (by simp <;> omega) _)) (fun b hb _ => by omega), by simp only [List.length_append, List.length_singleton]; exact snoc_map hlt hm.out (by rw [HY.out, ← HX.out]; rfl), (by repeat first | with_reducible exact Below.refl _ _ | with_reducible assumption | with_reducible refine bl_alloc ?_ _ | with_reducible refine bl_drewN ?_ _ | with_reducible refine Below.drew ?_ | (refine bl_set ?_ (by simp <;> omega) _))⟩
                case measure => simp [intOf]; omega)
            · have ek : ys.length = h.fifo.length := by omega
              have HM : Hid (ys.map LFrame.d = h.fifo.map LFrame.d) := by have := hm.out; rwa [List.take_of_length_le (by omega)] at this
              have EK : Hid _ := ek
              clear hm
              obtain ⟨qs, eq⟩ : ∃ y, y = ys := ⟨_, rfl⟩
              subst eq
              obtain ⟨A4, eA⟩ : ∃ y, y = A := ⟨_, rfl⟩
              subst eA
              clear hlt
              obtain ⟨k4, ec⟩ : ∃ y, y = c := ⟨_, rfl⟩
              subst ec
              go_wp2_with fail
              refine (l3copyEvents_any _ _ _ _ _ hze hz.ed (R.out _ hb).e).mono ?_; rintro e w5 ⟨⟨⟨A5, k5⟩, es⟩, rfl, m5, o5, R5, I5, hbb⟩
              have zb := hbb.size
              have h0 := heap_below hbb H0.out
              have h1 := heap_below hbb H1.out
              have h2 := heap_below hbb H2.out
              have hb5 := bl_then hb hbb
              have HRB : Hid _ := HB0.out.below hbb
              have HRQ : Hid _ := HR.out.below hbb
              have HRF : Hid _ := own_below HF0.out hbb
              have HRE : Hid (Row LEvent.cs LEvent.f 95 8 (fun b => w.heap.size + 3 ≤ b) w5 A5 k5 es) := ⟨own_base o5 (fun g hg => Nat.zero_le _), fun g hg => by have := own_ge o5 hg; omega, R5, fun z hz a ha => by have := I5 z hz a ha; omega⟩
              have M5 : Hid _ := m5
              clear c0 c1 c2 c3 c5 c6 c7 c8 c9 cf d0 d1 d2 d3 d4 d5 d6 d7 d8 d9 df hbb o5 R5 I5 m5
              obtain ⟨c0, c1, c2, c3, _, c5, c6, c7, c8, c9, cf⟩ := ten h1
              obtain ⟨d0, d1, d2, d3, d4, d5, d6, d7, d8, d9, df⟩ := ten h2
              have zz1 := lt_of_heap h1
              have zz2 := lt_of_heap h2
              clear h0 h1 h2
              go_wp2_with fail
              refine bodyPost_ret (v := .agg #[.int .i64 h.cfg.boxes, .int .i64 h.cfg.fifo, .int .i64 h.cfg.policy, .int .i64 h.cfg.events, .slice A1 h.filters.length k1, .slice A3 bs.length k3, .slice A4 qs.length k4, .slice A5 es.length k5, .int .i64 h.lost, .int .i64 h.stamp]) (by simp [results, Try.results27, go_sem, *]) rfl (Ret.mk ⟨h.cfg, A1, k1, h.filters, A3, k3, bs, A4, k4, qs, A5, k5, es, h.lost, h.stamp⟩ rfl ⟨?_, ⟨?_, ?_, ?_, ?_⟩, (by repeat first | with_reducible exact Below.refl _ _ | with_reducible assumption | with_reducible refine bl_alloc ?_ _ | with_reducible refine bl_drewN ?_ _ | with_reducible refine Below.drew ?_ | (refine bl_set ?_ (by simp <;> omega) _))⟩)
              · simp [LHost.d, HMB.out, HM.out, M5.out]
              · exact ((Row.filters HRF.out (B := fun b => w.heap.size + 3 ≤ b) (fun b hb _ => hb)).chg (S := fun b => b = w.heap.size + 1 ∨ b = w.heap.size + 2) (by repeat first | with_reducible exact Chg.refl _ _ | with_reducible assumption | with_reducible refine Chg.alloc ?_ _ | with_reducible refine Chg.drewN ?_ _ | with_reducible refine Chg.drew ?_ | (refine Chg.set ?_ (by simp <;> omega) _)) (fun b hb _ => by omega)).mono (fun b hb _ => by omega)
              · exact (HRB.out.chg (S := fun b => b = w.heap.size + 1 ∨ b = w.heap.size + 2) (by repeat first | with_reducible exact Chg.refl _ _ | with_reducible assumption | with_reducible refine Chg.alloc ?_ _ | with_reducible refine Chg.drewN ?_ _ | with_reducible refine Chg.drew ?_ | (refine Chg.set ?_ (by simp <;> omega) _)) (fun b hb _ => by omega)).mono (fun b hb _ => by omega)
              · exact (HRQ.out.chg (S := fun b => b = w.heap.size + 1 ∨ b = w.heap.size + 2) (by repeat first | with_reducible exact Chg.refl _ _ | with_reducible assumption | with_reducible refine Chg.alloc ?_ _ | with_reducible refine Chg.drewN ?_ _ | with_reducible refine Chg.drew ?_ | (refine Chg.set ?_ (by simp <;> omega) _)) (fun b hb _ => by omega)).mono (fun b hb _ => by omega)
              · exact (HRE.out.chg (S := fun b => b = w.heap.size + 1 ∨ b = w.heap.size + 2) (by repeat first | with_reducible exact Chg.refl _ _ | with_reducible assumption | with_reducible refine Chg.alloc ?_ _ | with_reducible refine Chg.drewN ?_ _ | with_reducible refine Chg.drew ?_ | (refine Chg.set ?_ (by simp <;> omega) _)) (fun b hb _ => by omega)).mono (fun b hb _ => by omega)
end Go.Proofs.Ytcfhjmflnochcaa
