/-
  Marking a whole host, and holding it.
-/
import Derived.Test.YtcfhjmflnochcaaHeld
set_option linter.unusedVariables false
set_option linter.unusedSimpArgs false
namespace Go.Proofs.Ytcfhjmflnochcaa
open Go.RowKit
variable {p q : Prop}

def Ty (w : World) (e : TypeId) (b : Nat) : Prop := ∃ all fr, w.heap[b]? = some (.cells all e fr)
theorem Ty.one {w : World} {e1 e2 : TypeId} {b : Nat} (h1 : Ty w e1 b) (h2 : Ty w e2 b) : e1 = e2 := by
  obtain ⟨c1, f1, h1⟩ := h1
  obtain ⟨c2, f2, h2⟩ := h2
  rw [h1] at h2
  injection h2 with h2
  injection h2
theorem ty_of {w : World} {e : TypeId} {a : Addr} {cs : List Value} (h : Cells True w e (some a) cs) (hn : cs ≠ []) : Ty w e a.block := by
  rcases h with h | ⟨g, off, all, e', fr, hA, hb, hf, _⟩
  · exact absurd h hn
  · injection hA with hA; subst hA; obtain ⟨rfl, _⟩ := hf trivial; exact ⟨_, _, hb⟩
theorem flat_ne' {α : Type} {enc : α → List Value} {sz : Nat} (he : ∀ x, (enc x).length = sz) (hs : 0 < sz) {xs : List α} (hx : 0 < xs.length) : xs.flatMap enc ≠ [] := fun e => by
  have := congrArg List.length e
  rw [flatMap_len he] at this
  have h := Nat.mul_pos hx hs
  simp at this
  omega
theorem ty_in {α : Type} {enc : α → List Value} {sz : Nat} (he : ∀ x, (enc x).length = sz) (hs : 0 < sz) {w : World} {e : TypeId} {A : Option Addr} {xs : List α} (h : Cells True w e A (xs.flatMap enc)) {b : Nat} (hb : inBlk A xs.length b) : Ty w e b := by
  obtain ⟨hn, a, rfl, rfl⟩ := hb
  exact ty_of h (flat_ne' he hs hn)
theorem ty_fr {w : World} {f : LFrame} (h : FrameR True w f) {b : Nat} (hb : inBlk f.A f.data.length b) : Ty w 5 b := ty_in cByte_len (by omega) h hb

theorem Cells.chgTy {w w' : World} {S : Nat → Prop} {e : TypeId} {A : Option Addr} {cs : List Value} (h : Cells True w e A cs) (c : Chg S w w') (hS : ∀ b, S b → ¬ Ty w e b) : Cells True w' e A cs :=
  h.keep fun g off _ hg ⟨all, e', fr, ht, he⟩ => c.block g hg fun hs => hS g hs (by obtain rfl := he trivial; exact ⟨_, _, ht⟩)
theorem FrameR.chgIn {w w' : World} {S : Nat → Prop} {f : LFrame} (h : FrameR p w f) (c : Chg S w w') (hS : ∀ b, S b → ¬ inBlk f.A f.data.length b) : FrameR p w' f :=
  h.chgRow c fun hd a ha hs => hS _ hs ⟨by cases hf : f.data with | nil => exact absurd hf hd | cons x xs => simp, a, ha, rfl⟩

/-- The blocks that marking a row of boxes (frames, events) may turn. -/
def bBlk (A : Option Addr) (xs : List LBox) (b : Nat) : Prop := inBlk A xs.length b ∨ ∃ x ∈ xs, inBlk x.f.A x.f.data.length b
def qBlk (A : Option Addr) (xs : List LFrame) (b : Nat) : Prop := inBlk A xs.length b ∨ ∃ x ∈ xs, inBlk x.A x.data.length b
def eBlk (A : Option Addr) (xs : List LEvent) (b : Nat) : Prop := inBlk A xs.length b ∨ ∃ x ∈ xs, inBlk x.f.A x.f.data.length b
theorem bBlk.ty {w : World} {e : TypeId} {A : Option Addr} {xs : List LBox} (h : BoxesR True w e A xs) {b : Nat} (hb : bBlk A xs b) : Ty w e b ∨ Ty w 5 b := by
  rcases hb with hb | ⟨x, hx, hb⟩
  · exact .inl (ty_in LBox.cs_len (by omega) h.1 hb)
  · exact .inr (ty_fr (h.2 x hx) hb)
theorem qBlk.ty {w : World} {e : TypeId} {A : Option Addr} {xs : List LFrame} (h : FramesR True w e A xs) {b : Nat} (hb : qBlk A xs b) : Ty w e b ∨ Ty w 5 b := by
  rcases hb with hb | ⟨x, hx, hb⟩
  · exact .inl (ty_in LFrame.cs_len (by omega) h.1 hb)
  · exact .inr (ty_fr (h.2 x hx) hb)
theorem eBlk.ty {w : World} {e : TypeId} {A : Option Addr} {xs : List LEvent} (h : EventsR True w e A xs) {b : Nat} (hb : eBlk A xs b) : Ty w e b ∨ Ty w 5 b := by
  rcases hb with hb | ⟨x, hx, hb⟩
  · exact .inl (ty_in LEvent.cs_len (by omega) h.1 hb)
  · exact .inr (ty_fr (h.2 x hx) hb)

theorem mem_marks {α : Type} {m : α → Int → α} {adv : α → Nat} {y : α} : ∀ {xs : List α} {k : Int}, y ∈ marks m adv xs k → ∃ x ∈ xs, ∃ k', y = m x k'
  | [], k, h => by cases h
  | x :: xs, k, h => by
    rcases List.mem_cons.1 h with rfl | h
    · exact ⟨x, List.mem_cons_self, k, rfl⟩
    · obtain ⟨z, hz, k', rfl⟩ := mem_marks h
      exact ⟨z, List.mem_cons_of_mem _ hz, k', rfl⟩

def mHost (h : LHost) (k : Int) : LHost :=
  { h with
    filters := marks mFilter aFilter h.filters k
    boxes := marks mBox aBox h.boxes (k + (dsum aFilter h.filters : Nat))
    fifo := marks mFrame aFrame h.fifo (k + (dsum aFilter h.filters : Nat) + (dsum aBox h.boxes : Nat))
    queue := marks mEvent aEvent h.queue (k + (dsum aFilter h.filters : Nat) + (dsum aBox h.boxes : Nat) + (dsum aFrame h.fifo : Nat)) }
def aHost (h : LHost) : Nat := dsum aFilter h.filters + dsum aBox h.boxes + dsum aFrame h.fifo + dsum aEvent h.queue
def hBlk (h : LHost) (b : Nat) : Prop := inBlk h.fA h.filters.length b ∨ bBlk h.bA h.boxes b ∨ qBlk h.qA h.fifo b ∨ eBlk h.eA h.queue b

/-- The sums of the marks of a host. -/
structure HostSum (h : LHost) : Prop where
  f : dsum aFilter h.filters ≤ 68719476736
  b : dsum aBox h.boxes ≤ 68719476736
  q : dsum aFrame h.fifo ≤ 68719476736
  e : dsum aEvent h.queue ≤ 68719476736

abbrev IHostR (p : Prop) (w : World) (h : LHost) : Prop := HostR p 102 98 49 95 w h

set_option maxRecDepth 100000 in
theorem markHost_any (w : World) (h : LHost) (k : Int) (k0 : 0 ≤ k) (k1 : k ≤ 68719476736) (hz : HostSz h) (hs : HostSum h) (H : IHostR True w h) (ap : HostAp h) :
    Calls Try.prog 11 #[.agg #[.int .i64 h.cfg.boxes, .int .i64 h.cfg.fifo, .int .i64 h.cfg.policy, .int .i64 h.cfg.events, .slice h.fA h.filters.length h.fc, .slice h.bA h.boxes.length h.bc, .slice h.qA h.fifo.length h.qc, .slice h.eA h.queue.length h.ec, .int .i64 h.lost, .int .i64 h.stamp], .int .i64 k] w
      fun e w' => e = .returned (.int .i64 (k + (aHost h : Nat))) ∧ IHostR True w' (mHost h k) ∧ Chg (hBlk h) w w' := by
  have H0 := H.below (w' := w.alloc (.cells #[.int .i64 h.cfg.boxes, .int .i64 h.cfg.fifo, .int .i64 h.cfg.policy, .int .i64 h.cfg.events, .slice h.fA h.filters.length h.fc, .slice h.bA h.boxes.length h.bc, .slice h.qA h.fifo.length h.qc, .slice h.eA h.queue.length h.ec, .int .i64 h.lost, .int .i64 h.stamp] 37)) (by repeat first | with_reducible exact Below.refl _ _ | with_reducible assumption | with_reducible refine bl_alloc ?_ _ | with_reducible refine bl_drewN ?_ _ | with_reducible refine Below.drew ?_ | (refine bl_set ?_ (by simp <;> omega) _))
  clear H
  have hsf := hs.f
  have hsb := hs.b
  have hsq := hs.q
  have hse := hs.e
  obtain ⟨f0, f0d⟩ : ∃ f, f = dsum aFilter h.filters := ⟨_, rfl⟩
  obtain ⟨b0, b0d⟩ : ∃ f, f = dsum aBox h.boxes := ⟨_, rfl⟩
  obtain ⟨q0, q0d⟩ : ∃ f, f = dsum aFrame h.fifo := ⟨_, rfl⟩
  obtain ⟨e0, e0d⟩ : ∃ f, f = dsum aEvent h.queue := ⟨_, rfl⟩
  have hm : mHost h k = { h with filters := marks mFilter aFilter h.filters k, boxes := marks mBox aBox h.boxes (k + f0), fifo := marks mFrame aFrame h.fifo (k + f0 + b0), queue := marks mEvent aEvent h.queue (k + f0 + b0 + q0) } := by subst f0d; subst b0d; subst q0d; rfl
  have ha : (k + f0 + b0 + q0 + e0 : Int) = k + (aHost h : Nat) := by subst f0d; subst b0d; subst q0d; subst e0d; unfold aHost; push_cast; omega
  have HM : Hid _ := hm
  have HA : Hid _ := ha
  rw [← f0d] at hsf
  rw [← b0d] at hsb
  rw [← q0d] at hsq
  have F0 : Hid _ := f0d
  have B0 : Hid _ := b0d
  have Q0 : Hid _ := q0d
  have E0 : Hid _ := e0d
  rw [← e0d] at hse
  clear hm ha f0d b0d q0d e0d hs
  have c00 := heap_new (W := w) (.cells #[.int .i64 h.cfg.boxes, .int .i64 h.cfg.fifo, .int .i64 h.cfg.policy, .int .i64 h.cfg.events, .slice h.fA h.filters.length h.fc, .slice h.bA h.boxes.length h.bc, .slice h.qA h.fifo.length h.qc, .slice h.eA h.queue.length h.ec, .int .i64 h.lost, .int .i64 h.stamp] 37) _ rfl
  have cw := Chg.of_below (w := w) (w' := w.alloc (.cells #[.int .i64 h.cfg.boxes, .int .i64 h.cfg.fifo, .int .i64 h.cfg.policy, .int .i64 h.cfg.events, .slice h.fA h.filters.length h.fc, .slice h.bA h.boxes.length h.bc, .slice h.qA h.fifo.length h.qc, .slice h.eA h.queue.length h.ec, .int .i64 h.lost, .int .i64 h.stamp] 37)) (by repeat first | with_reducible exact Below.refl _ _ | with_reducible assumption | with_reducible refine bl_alloc ?_ _ | with_reducible refine bl_drewN ?_ _ | with_reducible refine Below.drew ?_ | (refine bl_set ?_ (by simp <;> omega) _)) (hBlk h)
  go_enter Try.func11, Try.ntmps11
  go_wp2_with fail
  refine (markFilterS_any _ _ _ _ _ _ k0 (by omega) hz.f H0.f).mono ?_; rintro e w1 ⟨rfl, F1, ch⟩
  rw [← F0.out]
  have t1 : ∀ b, inBlk h.fA h.filters.length b → Ty _ 102 b := fun b hb => ty_in DFilter.cs_len (by omega) H0.f hb
  have c01 := heap_chg ch c00 (fun hb => by have := (t1 _ hb).one ⟨_, _, c00⟩; simp at this)
  have B1 : BoxesR True w1 98 h.bA h.boxes := ⟨H0.b.1.chgTy ch (fun b hb ht => by have := (t1 b hb).one ht; simp at this), fun x hx => (H0.b.2 x hx).chgIn ch (fun b hb hi => by have := (t1 b hb).one (ty_fr (H0.b.2 x hx) hi); simp at this)⟩
  have Q1 : FramesR True w1 49 h.qA h.fifo := ⟨H0.q.1.chgTy ch (fun b hb ht => by have := (t1 b hb).one ht; simp at this), fun x hx => (H0.q.2 x hx).chgIn ch (fun b hb hi => by have := (t1 b hb).one (ty_fr (H0.q.2 x hx) hi); simp at this)⟩
  have E1 : EventsR True w1 95 h.eA h.queue := ⟨H0.e.1.chgTy ch (fun b hb ht => by have := (t1 b hb).one ht; simp at this), fun x hx => (H0.e.2 x hx).chgIn ch (fun b hb hi => by have := (t1 b hb).one (ty_fr (H0.e.2 x hx) hi); simp at this)⟩
  have cw1 := cw.trans ch (fun _ _ hb => .inl hb)
  obtain ⟨c10, c11, c12, c13, c14, c15, c16, c17, c18, c19, cf1⟩ := ten c01
  have C01 : Hid _ := c01
  clear c01 c00 ch t1 H0 cw
  go_wp2_with fail
  clear c10 c11 c12 c13 c14 c15 c16 c17 c18 c19 cf1
  refine (markBoxS_any _ _ _ _ (by simp) _ _ (by omega) (by omega) hz.b (by rw [← B0.out]; omega) hz.bd B1 ap.b).mono ?_; rintro e w2 ⟨rfl, B2, ch⟩
  rw [← B0.out]
  have t2 : ∀ b, bBlk h.bA h.boxes b → Ty w1 98 b ∨ Ty w1 5 b := fun b hb => hb.ty B1
  have c02 := heap_chg ch C01.out (fun hb => by rcases t2 _ hb with h | h <;> (have := h.one ⟨_, _, C01.out⟩; simp at this))
  have F2 := F1.chgTy ch (fun b hb ht => by rcases t2 b hb with h | h <;> (have := h.one ht; simp at this))
  have Q2 : FramesR True w2 49 h.qA h.fifo := ⟨Q1.1.chgTy ch (fun b hb ht => by rcases t2 b hb with h | h <;> (have := h.one ht; simp at this)), fun x hx => (Q1.2 x hx).chgIn ch (fun b hb hi => by
    rcases hb with hb | ⟨y, hy, hb⟩
    · have := (ty_in LBox.cs_len (by omega) B1.1 hb).one (ty_fr (Q1.2 x hx) hi); simp at this
    · obtain ⟨_, a1, h1, h2⟩ := hb; obtain ⟨_, a2, h3, h4⟩ := hi; exact ap.bq y hy x hx a1 a2 h1 h3 (by rw [h2, h4]))⟩
  have E2 : EventsR True w2 95 h.eA h.queue := ⟨E1.1.chgTy ch (fun b hb ht => by rcases t2 b hb with h | h <;> (have := h.one ht; simp at this)), fun x hx => (E1.2 x hx).chgIn ch (fun b hb hi => by
    rcases hb with hb | ⟨y, hy, hb⟩
    · have := (ty_in LBox.cs_len (by omega) B1.1 hb).one (ty_fr (E1.2 x hx) hi); simp at this
    · obtain ⟨_, a1, h1, h2⟩ := hb; obtain ⟨_, a2, h3, h4⟩ := hi; exact ap.be y hy x hx a1 a2 h1 h3 (by rw [h2, h4]))⟩
  have cw2 := cw1.trans ch (fun _ _ hb => .inr (.inl hb))
  obtain ⟨c10, c11, c12, c13, c14, c15, c16, c17, c18, c19, cf1⟩ := ten c02
  have C02 : Hid _ := c02
  clear c02 C01 ch t2 F1 B1 Q1 E1 cw1
  go_wp2_with fail
  clear c10 c11 c12 c13 c14 c15 c16 c17 c18 c19 cf1
  refine (markFrameS_any _ _ _ _ (by simp) _ _ (by omega) (by omega) hz.q (by rw [← Q0.out]; omega) hz.qd Q2 ap.q).mono ?_; rintro e w3 ⟨rfl, Q3, ch⟩
  rw [← Q0.out]
  have t3 : ∀ b, qBlk h.qA h.fifo b → Ty w2 49 b ∨ Ty w2 5 b := fun b hb => hb.ty Q2
  have c03 := heap_chg ch C02.out (fun hb => by rcases t3 _ hb with h | h <;> (have := h.one ⟨_, _, C02.out⟩; simp at this))
  have F3 := F2.chgTy ch (fun b hb ht => by rcases t3 b hb with h | h <;> (have := h.one ht; simp at this))
  have B3 : BoxesR True w3 98 h.bA (marks mBox aBox h.boxes (k + f0)) := ⟨B2.1.chgTy ch (fun b hb ht => by rcases t3 b hb with h | h <;> (have := h.one ht; simp at this)), fun x hx => (B2.2 x hx).chgIn ch (fun b hb hi => by
    rcases hb with hb | ⟨y, hy, hb⟩
    · have := (ty_in LFrame.cs_len (by omega) Q2.1 hb).one (ty_fr (B2.2 x hx) hi); simp at this
    · obtain ⟨z, hz, k', rfl⟩ := mem_marks hx
      obtain ⟨_, a1, h1, h2⟩ := hb; obtain ⟨_, a2, h3, h4⟩ := hi; exact ap.bq z hz y hy a2 a1 h3 h1 (by rw [h2, h4]))⟩
  have E3 : EventsR True w3 95 h.eA h.queue := ⟨E2.1.chgTy ch (fun b hb ht => by rcases t3 b hb with h | h <;> (have := h.one ht; simp at this)), fun x hx => (E2.2 x hx).chgIn ch (fun b hb hi => by
    rcases hb with hb | ⟨y, hy, hb⟩
    · have := (ty_in LFrame.cs_len (by omega) Q2.1 hb).one (ty_fr (E2.2 x hx) hi); simp at this
    · obtain ⟨_, a1, h1, h2⟩ := hb; obtain ⟨_, a2, h3, h4⟩ := hi; exact ap.qe y hy x hx a1 a2 h1 h3 (by rw [h2, h4]))⟩
  have cw3 := cw2.trans ch (fun _ _ hb => .inr (.inr (.inl hb)))
  obtain ⟨c10, c11, c12, c13, c14, c15, c16, c17, c18, c19, cf1⟩ := ten c03
  clear c03 C02 ch t3 F2 B2 Q2 E2 cw2
  go_wp2_with fail
  clear c10 c11 c12 c13 c14 c15 c16 c17 c18 c19 cf1
  refine (markEventS_any _ _ _ _ (by simp) _ _ (by omega) (by omega) hz.e (by rw [← E0.out]; omega) hz.ed E3 ap.e).mono ?_; rintro e w4 ⟨rfl, E4, ch⟩
  rw [← E0.out]
  have t4 : ∀ b, eBlk h.eA h.queue b → Ty w3 95 b ∨ Ty w3 5 b := fun b hb => hb.ty E3
  have F4 := F3.chgTy ch (fun b hb ht => by rcases t4 b hb with h | h <;> (have := h.one ht; simp at this))
  have B4 : BoxesR True w4 98 h.bA (marks mBox aBox h.boxes (k + f0)) := ⟨B3.1.chgTy ch (fun b hb ht => by rcases t4 b hb with h | h <;> (have := h.one ht; simp at this)), fun x hx => (B3.2 x hx).chgIn ch (fun b hb hi => by
    rcases hb with hb | ⟨y, hy, hb⟩
    · have := (ty_in LEvent.cs_len (by omega) E3.1 hb).one (ty_fr (B3.2 x hx) hi); simp at this
    · obtain ⟨z, hz, k', rfl⟩ := mem_marks hx
      obtain ⟨_, a1, h1, h2⟩ := hb; obtain ⟨_, a2, h3, h4⟩ := hi; exact ap.be z hz y hy a2 a1 h3 h1 (by rw [h2, h4]))⟩
  have Q4 : FramesR True w4 49 h.qA (marks mFrame aFrame h.fifo (k + f0 + b0)) := ⟨Q3.1.chgTy ch (fun b hb ht => by rcases t4 b hb with h | h <;> (have := h.one ht; simp at this)), fun x hx => (Q3.2 x hx).chgIn ch (fun b hb hi => by
    rcases hb with hb | ⟨y, hy, hb⟩
    · have := (ty_in LEvent.cs_len (by omega) E3.1 hb).one (ty_fr (Q3.2 x hx) hi); simp at this
    · obtain ⟨z, hz, k', rfl⟩ := mem_marks hx
      obtain ⟨_, a1, h1, h2⟩ := hb; obtain ⟨_, a2, h3, h4⟩ := hi; exact ap.qe z hz y hy a2 a1 h3 h1 (by rw [h2, h4]))⟩
  have cw4 := cw3.trans ch (fun _ _ hb => .inr (.inr (.inr hb)))
  clear ch t4 F3 B3 Q3 E3 cw3
  go_wp2_with fail
  go_ret
  exact ⟨congrArg (fun z => Ending.returned (.int .i64 z)) HA.out, by rw [HM.out]; exact ⟨F4, B4, Q4, E4⟩, cw4⟩

end Go.Proofs.Ytcfhjmflnochcaa
