/-
  The program's test of a host's boxes.
-/
import Derived.Test.YtcfhjmflnochcaaOkL
import Derived.Test.YtcfhjmflnochcaaMap
set_option linter.unusedVariables false
set_option linter.unusedSimpArgs false
namespace Go.Proofs.Ytcfhjmflnochcaa
open Go.RowKit
variable {p q : Prop}

/-- What holds of the boxes and the two maps. -/
structure BoxInv (st : Int) (bs : List DBox) (Dt Ds : DataW Unit) : Prop where
  ok : ∀ b ∈ bs, b.Ok st
  t : KM Dt (tagsOf bs)
  s : KM Ds (stampsOf bs)
  e : Maps.size Dt = Maps.size Ds
theorem BoxInv.nil (st : Int) : BoxInv st [] (.map []) (.map []) := ⟨by simp, KM.nil, KM.nil, rfl⟩
theorem mem_succ {bs : List DBox} {k : Nat} (hk : k < bs.length) {P : DBox → Prop} (h : ∀ b ∈ bs.take k, P b) (h1 : P bs[k]) : ∀ b ∈ bs.take (k + 1), P b := by
  rw [List.take_succ_eq_append_getElem hk]
  intro b hb
  rcases List.mem_append.1 hb with hb | hb
  · exact h b hb
  · simp at hb; subst hb; exact h1
theorem BoxInv.free {st : Int} {bs : List DBox} {k : Nat} (hk : k < bs.length) {Dt Ds : DataW Unit} (h : BoxInv st (bs.take k) Dt Ds) (h1 : bs[k].state = 0) (h2 : bs[k].Ok st) : BoxInv st (bs.take (k + 1)) Dt Ds := by
  have hu : bs[k].used = false := by simp [DBox.used, h1]
  refine ⟨mem_succ hk h.ok h2, ?_, ?_, h.e⟩
  · have := h.t; unfold tagsOf at this ⊢; rw [used_succ hk, hu]; simpa using this
  · have := h.s; unfold stampsOf at this ⊢; rw [used_succ hk, hu]; simpa using this
theorem BoxInv.used {st : Int} {bs : List DBox} {k : Nat} (hk : k < bs.length) {Dt Ds : DataW Unit} (h : BoxInv st (bs.take k) Dt Ds) (h1 : bs[k].state ≠ 0) (h2 : bs[k].Ok st) (d e : DataW Unit)
    (h3 : Maps.size (Dt.put (.int .i64 bs[k].tag) d) = Maps.size (Ds.put (.int .i64 bs[k].stamp) e)) : BoxInv st (bs.take (k + 1)) (Dt.put (.int .i64 bs[k].tag) d) (Ds.put (.int .i64 bs[k].stamp) e) := by
  have hu : bs[k].used = true := by simp [DBox.used, h1]
  refine ⟨mem_succ hk h.ok h2, ?_, ?_, h3⟩
  · have := h.t.put bs[k].tag d; unfold tagsOf at this ⊢; rw [used_succ hk, hu]; simpa using this
  · have := h.s.put bs[k].stamp e; unfold stampsOf at this ⊢; rw [used_succ hk, hu]; simpa using this
theorem nodup_take {α : Type} {R : α → α → Prop} {xs : List α} (k : Nat) (h : xs.Pairwise R) : (xs.take k).Pairwise R := h.sublist (List.take_sublist _ _)
/-- Where the two maps are of different sizes two boxes agree. -/
theorem BoxInv.parted {st : Int} {bs : List DBox} {k : Nat} (hk : k < bs.length) {Dt Ds : DataW Unit} (h : BoxInv st (bs.take k) Dt Ds) (h1 : bs[k].state ≠ 0) (d e : DataW Unit)
    (h3 : ¬ Maps.size (Dt.put (.int .i64 bs[k].tag) d) = Maps.size (Ds.put (.int .i64 bs[k].stamp) e)) : ¬ BoxesOk st bs := by
  intro hb
  have hu : bs[k].used = true := by simp [DBox.used, h1]
  have hp := (pair_iff _).1 (nodup_take (k + 1) hb.1.2)
  have ht := h.t.put bs[k].tag d
  have hs := h.s.put bs[k].stamp e
  have et : tagsOf (bs.take (k + 1)) = tagsOf (bs.take k) ++ [bs[k].tag] := by unfold tagsOf; rw [used_succ hk, hu]; rfl
  have es : stampsOf (bs.take (k + 1)) = stampsOf (bs.take k) ++ [bs[k].stamp] := by unfold stampsOf; rw [used_succ hk, hu]; rfl
  rw [← et] at ht
  rw [← es] at hs
  have a := ht.eq.2 hp.1
  have b := hs.eq.2 hp.2
  rw [tags_len] at a
  rw [stamps_len] at b
  exact h3 (a.trans b.symm)
/-- The end's test. -/
theorem BoxInv.fin {st : Int} {bs : List DBox} {Dt Ds : DataW Unit} (h : BoxInv st bs Dt Ds) : BoxesOk st bs ↔ bs.countP DBox.isBusy ≤ 1 ∧ Maps.size Dt = bs.countP DBox.used := by
  have ht := h.t.eq
  have hs := h.s.eq
  rw [tags_len] at ht
  rw [stamps_len, ← h.e] at hs
  unfold BoxesOk Boxes1
  rw [pair_iff, ← ht, ← hs]
  constructor
  · intro ⟨⟨_, h1, _⟩, h2⟩; exact ⟨h2, h1⟩
  · intro ⟨h1, h2⟩; exact ⟨⟨h.ok, h2, h2⟩, h1⟩
theorem boxesOk_not {st : Int} {xs : List LBox} {k : Nat} (hk : k < xs.length) (h1 : ¬ xs[k].d.Ok st) : ¬ BoxesOk st (xs.map LBox.d) := boxes1_not hk h1
theorem LHost.blen (x : LHost) : x.d.boxes.length = x.boxes.length := by simp [LHost.d]
theorem bcells (x : LBox) : LBox.cs x = [.int .i64 x.state, .int .i64 x.tag, .int .i64 x.stamp, .bool x.f.ext, .int .u32 x.f.id, .bool x.f.rtr, .int .i64 x.f.dlc, .slice x.f.A x.f.data.length x.f.cap] := rfl

set_option maxHeartbeats 4000000 in
set_option maxRecDepth 100000 in
theorem goodBoxes_any (w : World) (h : LHost) (hz : HostSz h) (hst : h.stamp ≤ 1000000) (a1 a2 a3 a4 : TypeId) (H : HostR p a1 a2 a3 a4 w h) :
    Calls Try.prog 77 #[.agg #[.int .i64 h.cfg.boxes, .int .i64 h.cfg.fifo, .int .i64 h.cfg.policy, .int .i64 h.cfg.events, .slice h.fA h.filters.length h.fc, .slice h.bA h.boxes.length h.bc, .slice h.qA h.fifo.length h.qc, .slice h.eA h.queue.length h.ec, .int .i64 h.lost, .int .i64 h.stamp]] w
      fun e w' => e = .returned (.bool (decide (BoxesOk h.stamp h.d.boxes))) ∧ Below w.heap.size w w' := by
  have R : Hid _ := fun W (k : Below w.heap.size w W) => H.below k
  clear H
  have hzb := hz.b
  have hmm := @run_makeMap Try.prog
  go_enter Try.func77, Try.ntmps77
  go_wp2_with fail
  clear hmm
  go_loopw [5, 16] (fun d i wr => ∃ (k m : Nat) (Dt Ds : DataW Unit), k ≤ h.boxes.length ∧ m ≤ k ∧ i = .int .i64 k ∧ d = .int .i64 m ∧ wr.heap[w.heap.size]? = some (.cells (hostCells h) 37 (0, 0)) ∧ MapAt wr (w.heap.size + 1) k Dt ∧ MapAt wr (w.heap.size + 2) k Ds ∧ Below w.heap.size w wr ∧ Hid (BoxInv h.stamp (h.d.boxes.take k) Dt Ds) ∧ Hid (m = ((h.boxes.take k).map LBox.d).countP DBox.isBusy)) (fun _ i _ => h.boxes.length - (intOf i).toNat)
  case atStart => exact ⟨0, 0, _, _, by omega, by omega, rfl, rfl, heap_old _ (heap_old _ (heap_new _ _ rfl)), (MapAt.made (W := w.alloc _) (by simp)).below (by exact (by repeat first | with_reducible exact Below.refl _ _ | with_reducible assumption | with_reducible refine bl_alloc ?_ _ | with_reducible refine bl_drewN ?_ _ | with_reducible refine Below.drew ?_ | (refine bl_set ?_ (by simp <;> omega) _))), MapAt.made (W := (w.alloc _).alloc _) (by simp), (by repeat first | with_reducible exact Below.refl _ _ | with_reducible assumption | with_reducible refine bl_alloc ?_ _ | with_reducible refine bl_drewN ?_ _ | with_reducible refine Below.drew ?_ | (refine bl_set ?_ (by simp <;> omega) _)), BoxInv.nil _, by simp [Hid]⟩
  case round =>
    obtain ⟨k, m, Dt, Ds, hk, hm, rfl, rfl, hh, hmt, hms, hb, hp, hc⟩ := hrel
    obtain ⟨c0, c1, c2, c3, c4, c5, c6, c7, c8, c9, cf⟩ := ten hh
    have zh := lt_of_heap hh
    have z2 := hms.lt
    have HH : Hid _ := hh
    have MT : Hid _ := hmt
    have MS : Hid _ := hms
    have hkd : k ≤ h.d.boxes.length := by simpa [LHost.d] using hk
    clear hh hmt hms
    by_cases hlt : k < h.boxes.length
    · obtain ⟨g, o, hA, hg, ⟨d0, d1, d2, d3, d4, d5, d6, d7⟩⟩ := boxAt (R.out wr hb).b.1 k hlt
      have hld : k < h.d.boxes.length := by simpa [LHost.d] using hlt
      have hxd : Hid (h.d.boxes[k] = h.boxes[k].d) := by simp [LHost.d, Hid]
      rw [hA]
      have HA : Hid _ := hA
      have HD : Hid _ := hz.bd _ (List.getElem_mem hlt)
      have HF : Hid _ := (R.out wr hb).b.2 _ (List.getElem_mem hlt)
      obtain ⟨x, hx⟩ : ∃ x, x = h.boxes[k] := ⟨_, rfl⟩
      rw [← hx] at d0 d1 d2 d3 d4 d5 d6 d7 HD HF hxd
      have HX : Hid _ := hx
      clear hx hA
      by_cases hs : x.state = 0
      · have HS : Hid _ := hs
        rw [hs] at d0
        clear hs
        by_cases ht : x.tag = 0 ∧ x.stamp = 0
        · have HT : Hid _ := ht
          rw [ht.1] at d1
          rw [ht.2] at d2
          clear ht
          go_wp2_with fail
          refine (zeroFrameI_any _ x.f (by have := HD.out; omega) (HF.out.below (by exact (by repeat first | with_reducible exact Below.refl _ _ | with_reducible assumption | with_reducible refine bl_alloc ?_ _ | with_reducible refine bl_drewN ?_ _ | with_reducible refine Below.drew ?_ | (refine bl_set ?_ (by simp <;> omega) _))))).mono ?_; rintro e w1 ⟨rfl, hbb⟩
          have g1 : Below wr.heap.size wr w1 := bl_then (by exact (by repeat first | with_reducible exact Below.refl _ _ | with_reducible assumption | with_reducible refine bl_alloc ?_ _ | with_reducible refine bl_drewN ?_ _ | with_reducible refine Below.drew ?_ | (refine bl_set ?_ (by simp <;> omega) _))) hbb
          have hb1 := bl_then hb g1
          have hh1 := heap_below g1 HH.out
          have mt1 := MT.out.below g1
          have ms1 := MS.out.below g1
          by_cases hz : x.f.d = DFrame.zero
          · have HZ : Hid _ := hz
            rw [decide_eq_true hz]
            clear hz hb hbb d0 d1 d2 d3 d4 d5 d6 d7 c0 c1 c2 c3 c4 c5 c6 c7 c8 c9 cf g1
            go_wp2_with fail
            go_roundw
            case rel =>
              have hok : h.d.boxes[k].Ok h.stamp := by rw [hxd.out]; unfold DBox.Ok; rw [if_pos (by exact HS.out)]; exact ⟨HT.out.1, HT.out.2, HZ.out⟩
              refine ⟨k + 1, m, Dt, Ds, by omega, by omega, by go_num, rfl, hh1, mt1.mono (by omega), ms1.mono (by omega), hb1, hp.out.free hld (by rw [hxd.out]; exact HS.out) hok, ?_⟩
              have := count_succ hlt hc.out
              rw [← HX.out] at this
              rw [if_neg (by simp [DBox.isBusy, LBox.d, HS.out])] at this
              exact this
            case measure => simp [intOf]; omega
          · have HZ : Hid _ := hz
            rw [decide_eq_false hz]
            clear hz hb hbb d0 d1 d2 d3 d4 d5 d6 d7 c0 c1 c2 c3 c4 c5 c6 c7 c8 c9 cf
            go_wp2_with fail
            go_ret
            refine ⟨ret_ne (boxes1_not hlt (fun h => HZ.out ?_)), hb1⟩
            rw [← HX.out] at h
            unfold DBox.Ok at h
            rw [if_pos (by exact HS.out)] at h
            exact h.2.2
        · have HT : Hid _ := ht
          clear ht
          go_wp2_with fail
          all_goals first
            | (exfalso; exact HT.out ⟨by assumption, by assumption⟩)
            | (exfalso; apply HT.out; simp only [bne_eq_false_iff_eq] at *; omega)
            | (go_ret
               refine ⟨ret_ne (boxes1_not hlt (fun h => HT.out ?_)), (by repeat first | with_reducible exact Below.refl _ _ | with_reducible assumption | with_reducible refine bl_alloc ?_ _ | with_reducible refine bl_drewN ?_ _ | with_reducible refine Below.drew ?_ | (refine bl_set ?_ (by simp <;> omega) _))⟩
               rw [← HX.out] at h
               unfold DBox.Ok at h
               rw [if_pos (by exact HS.out)] at h
               exact ⟨h.1, h.2.1⟩)
      · have HS : Hid _ := hs
        by_cases hn : 0 ≤ x.state ∧ x.state ≤ 3 ∧ 0 ≤ x.tag ∧ x.tag ≤ 9999 ∧ 0 ≤ x.stamp ∧ x.stamp < h.stamp
        · have HN : Hid _ := hn
          have q1 : decide (x.state < 0) = false := decide_eq_false (by omega)
          have q2 : decide (3 < x.state) = false := decide_eq_false (by omega)
          have q3 : decide (x.tag < 0) = false := decide_eq_false (by omega)
          have q4 : decide (9999 < x.tag) = false := decide_eq_false (by omega)
          have q5 : decide (x.stamp < 0) = false := decide_eq_false (by omega)
          have q6 : decide (h.stamp ≤ x.stamp) = false := decide_eq_false (by omega)
          have q7 : (x.state == 0) = false := by simpa using hs
          clear hn hs
          go_wp2_with fail
          refine (ValidFrameI_any _ x.f (by have := HD.out; omega)).mono ?_; rintro e w1 ⟨rfl, hbb⟩
          have g1 : Below wr.heap.size wr w1 := bl_then (by exact (by repeat first | with_reducible exact Below.refl _ _ | with_reducible assumption | with_reducible refine bl_alloc ?_ _ | with_reducible refine bl_drewN ?_ _ | with_reducible refine Below.drew ?_ | (refine bl_set ?_ (by simp <;> omega) _))) hbb
          have hb1 := bl_then hb g1
          have hh1 := heap_below g1 HH.out
          have hx1 := heap_below hbb (heap_new (W := wr) _ _ rfl)
          have mt1 : Hid _ := MT.out.below g1
          have ms1 : Hid _ := MS.out.below g1
          clear c0 c1 c2 c3 c4 c5 c6 c7 c8 c9 cf d0 d1 d2 d3 d4 d5 d6 d7 hbb HH g1
          by_cases hv : x.f.d.Ok
          · have HV : Hid _ := hv
            rw [decide_eq_true hv]
            obtain ⟨d0, d1, d2, d3, d4, d5, d6, d7, df⟩ := eight hx1
            have zx := lt_of_heap hx1
            have H1 : Hid _ := hh1
            have HXX : Hid _ := hx1
            have hok : Hid (h.d.boxes[k].Ok h.stamp) := by rw [hxd.out]; show DBox.Ok h.stamp x.d; unfold DBox.Ok; rw [if_neg (by exact HS.out)]; obtain ⟨a1, a2, a3, a4, a5, a6⟩ := HN.out; exact ⟨a1, a2, a3, a4, a5, a6, HV.out⟩
            clear hv hh1 hx1 q1 q2 q3 q4 q5 q6 q7
            go_wp2_with fail
            have hS : Hid (∀ W, Chg (fun i => i = w.heap.size + 1 ∨ i = w.heap.size + 2) w1 W → W.cell? ⟨wr.heap.size, 1, none⟩ = some (.int .i64 x.tag) ∧ W.cell? ⟨wr.heap.size, 2, none⟩ = some (.int .i64 x.stamp) ∧ Chg (fun i => i = w.heap.size + 1 ∨ i = w.heap.size + 2) w1 W) := fun W hW =>
              ⟨(hW.cell (by simp; omega) (by simp; omega)).trans d1, (hW.cell (by simp; omega) (by simp; omega)).trans d2, hW⟩
            clear d0 d1 d2 d3 d4 d5 d6 d7 df
            go_region_held3 (fun W => W.cell? ⟨wr.heap.size, 1, none⟩ = some (.int .i64 x.tag) ∧ W.cell? ⟨wr.heap.size, 2, none⟩ = some (.int .i64 x.stamp) ∧ Chg (fun i => i = w.heap.size + 1 ∨ i = w.heap.size + 2) w1 W)
              (exact hS.out _ (by repeat first | with_reducible exact Chg.refl _ _ | with_reducible assumption | with_reducible refine Chg.alloc ?_ _ | with_reducible refine Chg.drewN ?_ _ | with_reducible refine Chg.drew ?_ | (refine Chg.set ?_ (by simp <;> omega) _)))
              (first
                | (refine upon_upd _ (w.heap.size + 1) k Dt ?_ (by omega) x.tag (k : Nat) (by have := HN.out; omega) (by have := HN.out; omega) (by omega) (by omega) ?_
                   exact mt1.out.keep rfl
                   intro w2 hmt hgrow
                   have hch2 : Chg (fun i => i = w.heap.size + 1 ∨ i = w.heap.size + 2) w1 w2 := Chg.trans (by exact (by repeat first | with_reducible exact Chg.refl _ _ | with_reducible assumption | with_reducible refine Chg.alloc ?_ _ | with_reducible refine Chg.drewN ?_ _ | with_reducible refine Chg.drew ?_ | (refine Chg.set ?_ (by simp <;> omega) _))) (Chg.grown hgrow (fun g hg _ => by injection hg with hg; exact .inl hg.symm)) (fun _ _ h => h)
                   have hms : Hid (MapAt w2 (w.heap.size + 2) k Ds) := (ms1.out.keep (w' := w2) ((hgrow.block _ ms1.out.lt (by simp))))
                   have MT2 : Hid _ := hmt
                   clear hmt hgrow)
                | (refine upon_upd _ (w.heap.size + 1 + 1) k Ds ?_ (by omega) x.stamp (k : Nat) (by have := HN.out; omega) (by have := HN.out; omega) (by omega) (by omega) ?_
                   exact hms.out.keep rfl
                   intro w3 hmt hgrow
                   have hch3 : Chg (fun i => i = w.heap.size + 1 ∨ i = w.heap.size + 2) w1 w3 := Chg.trans (by exact (by repeat first | with_reducible exact Chg.refl _ _ | with_reducible assumption | with_reducible refine Chg.alloc ?_ _ | with_reducible refine Chg.drewN ?_ _ | with_reducible refine Chg.drew ?_ | (refine Chg.set ?_ (by simp <;> omega) _))) (Chg.grown hgrow (fun g hg _ => by injection hg with hg; exact .inr hg.symm)) (fun _ _ h => h)
                   have MT3 : Hid (MapAt w3 (w.heap.size + 1) (k + 1) _) := (MT2.out.keep (w' := w3) ((hgrow.block _ MT2.out.lt (by simp))))
                   have MS3 : Hid _ := hmt
                   clear hmt hgrow))
            all_goals (
              clear hS
              have hx3 := heap_chg hch3 HXX.out (by omega)
              have hh3 := heap_chg hch3 H1.out (by omega)
              have hb3 : Below w.heap.size w w3 := bl_chg hb1 hch3 (fun i hi => by omega)
              obtain ⟨d0, d1, d2, d3, d4, d5, d6, d7, df⟩ := eight hx3
              have H3 : Hid _ := hh3
              obtain ⟨Dt', eT⟩ : ∃ D, D = Dt.put (.int .i64 x.tag) (.lit (.int .i64 k)) := ⟨_, rfl⟩
              obtain ⟨Ds', eS⟩ : ∃ D, D = Ds.put (.int .i64 x.stamp) (.lit (.int .i64 k)) := ⟨_, rfl⟩
              rw [← eT] at MT3
              rw [← eS] at MS3
              have ET : Hid _ := eT
              have ES : Hid _ := eS
              clear eT eS hx3 hh3 hch2 hch3
              by_cases hs : Maps.size Dt' = Maps.size Ds'
              · have HSZ : Hid _ := hs
                have q9 : ((Maps.size Dt' : Int) != Maps.size Ds') = false := by simp [hs]
                have hinv : Hid (BoxInv h.stamp (h.d.boxes.take (k + 1)) Dt' Ds') := by
                  have := hp.out.used hld (by rw [hxd.out]; exact HS.out) hok.out (.lit (.int .i64 k)) (.lit (.int .i64 k)) (by rw [hxd.out]; show Maps.size (Dt.put (.int .i64 x.tag) _) = Maps.size (Ds.put (.int .i64 x.stamp) _); rw [← ET.out, ← ES.out]; exact hs)
                  rw [hxd.out] at this
                  rw [ET.out, ES.out]
                  exact this
                have hcc := count_succ hlt hc.out
                rw [← HX.out] at hcc
                have HCC : Hid _ := hcc
                clear hs hcc
                by_cases h1 : x.state = 1
                · have q8 : (x.state != 1) = false := by simp [h1]
                  have HB1 : Hid (x.d.isBusy = false) := by simp [DBox.isBusy, LBox.d, h1, Hid]
                  clear h1
                  go_wp2_with (first | (at_len; refine wpl_lenM _ rfl (.tmp 82) rfl (w.heap.size + 1) (k + 1) Dt' rfl MT3.out ?_) | (at_len; refine wpl_lenM _ rfl (.tmp 84) rfl (w.heap.size + 1 + 1) (k + 1) Ds' rfl MS3.out ?_))
                  go_roundw
                  case rel =>
                    refine ⟨k + 1, m, Dt', Ds', by omega, by omega, by go_num, rfl, H3.out, MT3.out, MS3.out, hb3, hinv.out, ?_⟩
                    have := HCC.out
                    rwa [if_neg (by rw [HB1.out]; simp)] at this
                  case measure => simp [intOf]; omega
                · have q8 : (x.state != 1) = true := by simp [h1]
                  have HB1 : Hid (x.d.isBusy = true) := by simp [DBox.isBusy, LBox.d, h1, Hid]; exact HS.out
                  clear h1
                  go_wp2_with (first | (at_len; refine wpl_lenM _ rfl (.tmp 82) rfl (w.heap.size + 1) (k + 1) Dt' rfl MT3.out ?_) | (at_len; refine wpl_lenM _ rfl (.tmp 84) rfl (w.heap.size + 1 + 1) (k + 1) Ds' rfl MS3.out ?_))
                  go_roundw
                  case rel =>
                    refine ⟨k + 1, m + 1, Dt', Ds', by omega, by omega, by go_num, by go_num, H3.out, MT3.out, MS3.out, hb3, hinv.out, ?_⟩
                    have := HCC.out
                    rwa [if_pos HB1.out] at this
                  case measure => simp [intOf]; omega
              · have HSZ : Hid _ := hs
                have q9 : ((Maps.size Dt' : Int) != Maps.size Ds') = true := by simp; omega
                clear hs
                go_wp2_with (first | (at_len; refine wpl_lenM _ rfl (.tmp 82) rfl (w.heap.size + 1) (k + 1) Dt' rfl MT3.out ?_) | (at_len; refine wpl_lenM _ rfl (.tmp 84) rfl (w.heap.size + 1 + 1) (k + 1) Ds' rfl MS3.out ?_))
                go_ret
                refine ⟨ret_ne (hp.out.parted hld (by rw [hxd.out]; exact HS.out) (.lit (.int .i64 k)) (.lit (.int .i64 k)) ?_), hb3⟩
                rw [hxd.out]
                show ¬ Maps.size (Dt.put (.int .i64 x.tag) _) = Maps.size (Ds.put (.int .i64 x.stamp) _)
                rw [← ET.out, ← ES.out]
                exact HSZ.out)
          · have HV : Hid _ := hv
            rw [decide_eq_false hv]
            clear hv hh1 hx1
            go_wp2_with fail
            go_ret
            refine ⟨ret_ne (boxes1_not hlt (fun h => HV.out ?_)), hb1⟩
            rw [← HX.out] at h
            unfold DBox.Ok at h
            rw [if_neg (by exact HS.out)] at h
            exact h.2.2.2.2.2.2
        · have HN : Hid _ := hn
          clear hn
          go_wp2_with fail
          all_goals first
            | (exfalso; apply HN.out; omega)
            | (go_ret
               refine ⟨ret_ne (boxes1_not hlt (fun h => HN.out ?_)), (by repeat first | with_reducible exact Below.refl _ _ | with_reducible assumption | with_reducible refine bl_alloc ?_ _ | with_reducible refine bl_drewN ?_ _ | with_reducible refine Below.drew ?_ | (refine bl_set ?_ (by simp <;> omega) _))⟩
               rw [← HX.out] at h
               unfold DBox.Ok at h
               rw [if_neg (by exact HS.out)] at h
               obtain ⟨a1, a2, a3, a4, a5, a6, _⟩ := h
               exact ⟨a1, a2, a3, a4, a5, a6⟩)
    · have hke : k = h.boxes.length := by omega
      have HE : Hid _ := hke
      clear hke
      go_wp2_with fail
      clear hlt
      clear c0 c1 c2 c3 c4 c5 c6 c7 c8 c9 cf
      go_loopw [8, 96] (fun d i wr => ∃ j u : Nat, j ≤ h.boxes.length ∧ u ≤ j ∧ i = .int .i64 j ∧ d = .int .i64 u ∧ MapAt wr (w.heap.size + 1) k Dt ∧ Below w.heap.size w wr ∧ Hid (u = (h.d.boxes.take j).countP DBox.used)) (fun _ i _ => h.boxes.length - (intOf i).toNat)
      case atStart => exact ⟨0, 0, by omega, by omega, rfl, rfl, MT.out, hb, by simp [Hid]⟩
      case round =>
        clear MT MS HH hb
        obtain ⟨j, u, hj, hu, rfl, rfl, mt, hb, hc2⟩ := hrel
        have MT : Hid _ := mt
        have zm := mt.lt
        clear mt
        by_cases hlt : j < h.boxes.length
        · obtain ⟨g, o, hA, hg, ⟨d0, d1, d2, d3, d4, d5, d6, d7⟩⟩ := boxAt (R.out _ hb).b.1 j hlt
          have hld : j < h.d.boxes.length := by simpa [LHost.d] using hlt
          have hxd : Hid (h.d.boxes[j] = h.boxes[j].d) := by simp [LHost.d, Hid]
          rw [hA]
          obtain ⟨x, hx⟩ : ∃ x, x = h.boxes[j] := ⟨_, rfl⟩
          rw [← hx] at d0 d1 d2 d3 d4 d5 d6 d7 hxd
          have hcs : Hid ((h.d.boxes.take (j + 1)).countP DBox.used = u + if x.state = 0 then 0 else 1) := by
            rw [List.take_succ_eq_append_getElem hld, List.countP_append, ← hc2.out, hxd.out]
            by_cases e : x.state = 0 <;> simp [List.countP_cons, DBox.used, LBox.d, e, Hid]
          clear hx hA
          by_cases hs : x.state = 0
          · have q1 : (x.state != 0) = false := by simp [hs]
            have HS : Hid _ := hs
            clear hs
            go_wp2_with fail
            go_roundw
            case rel => exact ⟨j + 1, u, by omega, by omega, by go_num, rfl, MT.out.below (by exact (by repeat first | with_reducible exact Below.refl _ _ | with_reducible assumption | with_reducible refine bl_alloc ?_ _ | with_reducible refine bl_drewN ?_ _ | with_reducible refine Below.drew ?_ | (refine bl_set ?_ (by simp <;> omega) _))), (by repeat first | with_reducible exact Below.refl _ _ | with_reducible assumption | with_reducible refine bl_alloc ?_ _ | with_reducible refine bl_drewN ?_ _ | with_reducible refine Below.drew ?_ | (refine bl_set ?_ (by simp <;> omega) _)), by rw [hcs.out, if_pos HS.out]; rfl⟩
            case measure => simp [intOf]; omega
          · have q1 : (x.state != 0) = true := by simp [hs]
            have HS : Hid _ := hs
            clear hs
            go_wp2_with fail
            go_roundw
            case rel => exact ⟨j + 1, u + 1, by omega, by omega, by go_num, by go_num, MT.out.below (by exact (by repeat first | with_reducible exact Below.refl _ _ | with_reducible assumption | with_reducible refine bl_alloc ?_ _ | with_reducible refine bl_drewN ?_ _ | with_reducible refine Below.drew ?_ | (refine bl_set ?_ (by simp <;> omega) _))), (by repeat first | with_reducible exact Below.refl _ _ | with_reducible assumption | with_reducible refine bl_alloc ?_ _ | with_reducible refine bl_drewN ?_ _ | with_reducible refine Below.drew ?_ | (refine bl_set ?_ (by simp <;> omega) _)), by rw [hcs.out, if_neg HS.out]; rfl⟩
            case measure => simp [intOf]; omega
        · have hje : j = h.boxes.length := by omega
          have HJ : Hid _ := hje
          clear hje
          have hfin : Hid (BoxesOk h.stamp h.d.boxes ↔ m ≤ 1 ∧ Maps.size Dt = u) := by
            have h1 := hp.out
            have h2 := hc.out
            have h3 := hc2.out
            rw [HE.out, ← h.blen, List.take_length] at h1
            rw [HE.out, List.take_length] at h2
            rw [HJ.out, ← h.blen, List.take_length] at h3
            have := h1.fin
            rw [← h3] at this
            rw [h2]; exact this
          by_cases hm1 : m ≤ 1
          · have q1 : decide ((m : Int) ≤ 1) = true := by simp; omega
            have HM1 : Hid _ := hm1
            clear hm1
            have hlm := fun ty => MT.out.own.len (t := 110) Try.underlying110 ty
            go_wp2_with fail
            all_goals (
              go_ret
              refine ⟨congrArg (fun z => Ending.returned (.bool z)) ?_, hb⟩
              rw [Bool.eq_iff_iff, decide_eq_true_iff, hfin.out]
              simp
              have := HM1.out
              omega)
          · have q1 : decide ((m : Int) ≤ 1) = false := by simp; omega
            have HM1 : Hid _ := hm1
            clear hm1
            have hlm := fun ty => MT.out.own.len (t := 110) Try.underlying110 ty
            go_wp2_with fail
            go_ret
            exact ⟨ret_ne (fun h => HM1.out (hfin.out.1 h).1), hb⟩
end Go.Proofs.Ytcfhjmflnochcaa
