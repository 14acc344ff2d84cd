/-
  The side's look for the box that is being sent, its freeing of a box, its release.
-/
import Derived.Test.YtcfhjmflnochcaaSideP
set_option linter.unusedVariables false
set_option linter.unusedSimpArgs false
namespace Go.Proofs.Ytcfhjmflnochcaa
open Go.RowKit
variable {p q : Prop}

theorem any_iff {α : Type} {f : α → Bool} {xs : List α} : xs.any f = true ↔ ∃ j, ∃ h : j < xs.length, f xs[j] = true := by
  rw [List.any_eq_true]
  constructor
  · rintro ⟨x, hx, h⟩
    obtain ⟨j, hj, rfl⟩ := List.mem_iff_getElem.1 hx
    exact ⟨j, hj, h⟩
  · rintro ⟨j, hj, h⟩
    exact ⟨_, List.getElem_mem hj, h⟩
theorem beside_ne {bs : List DBox} (hp : bs.Pairwise Beside) {i j : Nat} (hi : i < bs.length) (hj : j < bs.length) (hne : i ≠ j) (h1 : bs[i].used = true) (h2 : bs[j].used = true) : bs[i].tag ≠ bs[j].tag := by
  have h1' : bs[i].state ≠ 0 := by simpa [DBox.used] using h1
  have h2' : bs[j].state ≠ 0 := by simpa [DBox.used] using h2
  rw [List.pairwise_iff_getElem] at hp
  rcases Nat.lt_or_gt_of_ne hne with h | h
  · exact (hp i j hi hj h h1' h2').1
  · exact fun e => (hp j i hj hi h h2' h1').1 e.symm
theorem DBox.zero_used : DBox.zero.used = false := rfl
theorem TM.free {D : DataW Unit} {bs : List DBox} (h : TM D bs) (hp : bs.Pairwise Beside) {i : Nat} (hi : i < bs.length) (hu : bs[i].used = true) : TM (D.del (.int .i64 bs[i].tag)) (bs.set i DBox.zero) := by
  have hD : Maps.has D (.int .i64 bs[i].tag) = true := by rw [h.has, any_iff]; exact ⟨i, hi, by simp [hu]⟩
  refine ⟨h.tidy.del _, fun t => ?_, ?_, fun j hj hju z => ?_⟩
  · by_cases e : t = bs[i].tag
    · subst e
      rw [Maps.has_del_same]
      symm
      rw [Bool.eq_false_iff]
      intro hc
      obtain ⟨j, hj, hh⟩ := any_iff.1 hc
      rw [List.getElem_set] at hh
      split at hh
      · simp [DBox.zero_used] at hh
      · rename_i hne
        simp only [Bool.and_eq_true, beq_iff_eq] at hh
        exact beside_ne hp hi (by simpa using hj) hne hu hh.1 hh.2.symm
    · rw [Maps.has_del_other (fun e2 => e (by injection e2)), h.has, Bool.eq_iff_iff, any_iff, any_iff]
      constructor
      · rintro ⟨j, hj, hh⟩
        refine ⟨j, by simpa using hj, ?_⟩
        rw [List.getElem_set]
        split
        · rename_i hne
          subst hne
          simp only [Bool.and_eq_true, beq_iff_eq] at hh
          exact absurd hh.2.symm e
        · exact hh
      · rintro ⟨j, hj, hh⟩
        refine ⟨j, by simpa using hj, ?_⟩
        rw [List.getElem_set] at hh
        split at hh
        · simp [DBox.zero_used] at hh
        · exact hh
  · have h1 := Maps.size_del h.tidy (k := .int .i64 bs[i].tag)
    rw [hD, if_pos rfl, h.size] at h1
    rw [List.countP_set hi, hu, if_pos rfl, DBox.zero_used]
    simp
    omega
  · have hj' : j < bs.length := by simpa using hj
    by_cases e : i = j
    · subst e; simp [DBox.zero_used] at hju
    · have e1 : (bs.set i DBox.zero)[j] = bs[j] := by rw [List.getElem_set, if_neg e]
      rw [e1] at hju ⊢
      rw [Maps.atKey_del_other (fun e2 => beside_ne hp hi hj' e hu hju (by injection e2 with _ e2; exact e2.symm))]
      exact h.at_ j hj' hju z
/-- The state of a box in use changes. -/
theorem TM.state {D : DataW Unit} {bs : List DBox} (h : TM D bs) {i : Nat} (hi : i < bs.length) (hu : bs[i].used = true) (s : Int) (hs : s ≠ 0) : TM D (bs.set i { bs[i] with state := s }) := by
  have hn : (DBox.used { bs[i] with state := s }) = true := by simp [DBox.used, hs]
  refine ⟨h.tidy, fun t => ?_, ?_, fun j hj hju z => ?_⟩
  · rw [h.has, Bool.eq_iff_iff, any_iff, any_iff]
    constructor
    · rintro ⟨j, hj, hh⟩
      refine ⟨j, by simpa using hj, ?_⟩
      rw [List.getElem_set]
      split
      · rename_i hne; subst hne; rw [hn]; simpa [hu] using hh
      · exact hh
    · rintro ⟨j, hj, hh⟩
      refine ⟨j, by simpa using hj, ?_⟩
      rw [List.getElem_set] at hh
      split at hh
      · rename_i hne; subst hne; rw [hn] at hh; simpa [hu] using hh
      · exact hh
  · rw [List.countP_set hi, hu, if_pos rfl, hn, if_pos rfl, h.size]
    have : 0 < bs.countP DBox.used := List.countP_pos_iff.2 ⟨_, List.getElem_mem hi, hu⟩
    omega
  · have hj' : j < bs.length := by simpa using hj
    by_cases e : i = j
    · subst e
      simp only [List.getElem_set_self]
      exact h.at_ i hi hu z
    · have e1 : (bs.set i { bs[i] with state := s })[j] = bs[j] := by rw [List.getElem_set, if_neg e]
      rw [e1] at hju ⊢
      exact h.at_ j hj' hju z

set_option maxHeartbeats 4000000 in
set_option maxRecDepth 100000 in
theorem busy_any (w : World) (g m : Nat) (x : LHost) (B : Nat → Prop) (H : SideR B w g m x) (lb : x.boxes.length ≤ 1099511627776) :
    Calls Try.prog 79 #[.pointer (some ⟨g, 0, none⟩)] w fun e w' => e = .returned (.int .i64 (firstIx DBox.sending (x.boxes.map LBox.d))) ∧ Below w.heap.size w w' := by
  have R : Hid _ := fun W (k : Below w.heap.size w W) => (H.below k).own.hostR.b
  obtain ⟨c0, c1, c2, c3, c4, c5, c6, c7, c8, c9, c10, c11, c12, cf⟩ := thirteen H.blk
  clear H
  go_enter Try.func79, Try.ntmps79
  go_wp2_with fail
  clear c0 c1 c2 c3 c4 c5 c6 c7 c8 c9 c10 c11 c12 cf
  go_loopw [10] (fun i wr => ∃ k : Nat, k ≤ x.boxes.length ∧ i = .int .i64 k ∧ Below w.heap.size w wr ∧ Hid (∀ j (_ : j < k) (hj : j < x.boxes.length), x.boxes[j].d.sending = false)) (fun i _ => x.boxes.length - (intOf i).toNat)
  case atStart => exact ⟨0, by omega, rfl, (by repeat first | with_reducible exact Below.refl _ _ | with_reducible assumption | with_reducible refine bl_alloc ?_ _ | with_reducible refine bl_drewN ?_ _ | with_reducible refine Below.drew ?_ | (refine bl_set ?_ (by simp <;> omega) _)), by simp [Hid]⟩
  case round =>
    obtain ⟨k, hk, rfl, hb, hp⟩ := hrel
    by_cases hlt : k < x.boxes.length
    · obtain ⟨g, o, hA, hg, ⟨e0, e1, e2, e3, e4, e5, e6, e7⟩⟩ := boxAt (R.out wr hb).1 k hlt
      rw [hA]
      obtain ⟨y, hy⟩ : ∃ y, y = x.boxes[k] := ⟨_, rfl⟩
      rw [← hy] at e0 e1 e2 e3 e4 e5 e6 e7
      have HY : Hid _ := hy
      clear hy hA
      by_cases hs : y.d.sending = true
      · have HS : Hid _ := hs
        have hs2 : y.state = 2 ∨ y.state = 3 := by simpa [DBox.sending, LBox.d] using hs
        clear hs
        rcases hs2 with hs2 | hs2
        all_goals (
          rw [hs2] at e0
          clear hs2
          go_wp2_with fail
          go_ret
          refine ⟨congrArg (fun z => Ending.returned (.int .i64 z)) (firstIx_some (by simpa using hlt) ?_ ?_).symm, (by repeat first | with_reducible exact Below.refl _ _ | with_reducible assumption | with_reducible refine bl_alloc ?_ _ | with_reducible refine bl_drewN ?_ _ | with_reducible refine Below.drew ?_ | (refine bl_set ?_ (by simp <;> omega) _))⟩
          · simp only [List.getElem_map]; rw [← HY.out]; exact HS.out
          · intro j hj
            simp only [List.getElem_map]
            exact hp.out j hj (by omega))
      · have HS : Hid (y.d.sending = false) := Bool.eq_false_iff.2 hs
        have n1 : (y.state == 2) = false := by have := HS.out; simp [DBox.sending, LBox.d] at this; simp; omega
        have n2 : (y.state == 3) = false := by have := HS.out; simp [DBox.sending, LBox.d] at this; simp; omega
        clear hs
        go_wp2_with fail
        go_roundw
        case rel => exact ⟨k + 1, by omega, by go_num, (by repeat first | with_reducible exact Below.refl _ _ | with_reducible assumption | with_reducible refine bl_alloc ?_ _ | with_reducible refine bl_drewN ?_ _ | with_reducible refine Below.drew ?_ | (refine bl_set ?_ (by simp <;> omega) _)), fun j hj hl => by
          by_cases he : j = k
          · subst he; rw [← HY.out]; exact HS.out
          · exact hp.out j (by omega) hl⟩
        case measure => simp [intOf]; omega
    · have HE : Hid _ := hlt
      go_wp2_with fail
      go_ret
      exact ⟨congrArg (fun z => Ending.returned (.int .i64 z)) (firstIx_none (fun j hj => by simp only [List.getElem_map]; exact hp.out j (by have := HE.out; simp at hj; omega) (by simpa using hj))).symm, hb⟩

theorem wpl_del {ops : Array Oper} {rest : List Oper} {o : Oper} {a : Act} {Q : Exit → Act → World → Prop} (W : World) (hgd : o.guard = none) (m x : Operand) (ho : o.op = Op.call { callee := Callee.builtin Builtin.delete, args := #[m, x], argTypes := #[110, 3] }) (b n : Nat) (D : DataW Unit)
    (hm : a.eval m = .map (some b)) (hown : MapAt W b n D) (k : Int) (hx : a.eval x = .int .i64 k) (hk0 : 0 ≤ k) (hk1 : k ≤ 9223372036854775807)
    (h : ∀ w', MapAt w' b n (D.del (.int .i64 k)) → W.grownBy w' (some b) → wpList Try.prog ops Q rest (a.put o.dst (.tuple #[])) w') : wpList Try.prog ops Q (o :: rest) a W :=
  wpList_plain hgd fun K hK => wp_del W m x ho b n D hm hown k hx hk0 hk1 fun w' r1 r2 => hK _ _ (h w' r1 r2)

set_option maxHeartbeats 4000000 in
set_option maxRecDepth 100000 in
theorem free_any (w : World) (g m : Nat) (x : LHost) (B : Nat → Prop) (H : SideR B w g m x) (hp : x.d.boxes.Pairwise Beside) (i : Nat) (hi : i < x.boxes.length) (hb8 : x.boxes.length ≤ 8) (hu : x.boxes[i].state ≠ 0) (ht0 : 0 ≤ x.boxes[i].tag) (ht1 : x.boxes[i].tag ≤ 9999) :
    Calls Try.prog 80 #[.pointer (some ⟨g, 0, none⟩), .int .i64 i] w
      (RetW (.tuple #[]) (fun w' => SideR B w' g m { x with boxes := x.boxes.set i LBox.zero } ∧ ∃ S : Nat → Prop, Chg S w w' ∧ ∀ b, S b → B b ∧ ¬ Ty w 5 b)) := by
  obtain ⟨gb, hA, hlb, hBb, hfz, hty, ⟨e0, e1, e2, e3, e4, e5, e6, e7⟩⟩ := box_own H.own hi
  obtain ⟨D, hm, tm⟩ := H.map
  obtain ⟨y, hy⟩ : ∃ y, y = x.boxes[i] := ⟨_, rfl⟩
  rw [← hy] at e1 ht0 ht1 hu
  obtain ⟨c0, c1, c2, c3, c4, c5, c6, c7, c8, c9, c10, c11, c12, cf⟩ := thirteen H.blk
  rw [hA] at c5
  have hg := lt_of_heap H.blk
  have HM : Hid _ := hm
  have HH : Hid _ := H
  have HT : Hid _ := tm
  have HY : Hid _ := hy
  have HA : Hid _ := hA
  have HTY : Hid _ := hty
  clear H hm tm hy hA e0 e2 e3 e4 e5 e6 e7
  go_enter Try.func80, Try.ntmps80
  go_wp2_with fail
  go_still_tail 12, (by kernel_rfl)
  go_wp2_with (at_delete; refine wpl_del _ rfl (.tmp 7) (.tmp 15) rfl m (Maps.size D) D rfl (HM.out.keep rfl) y.tag rfl (by omega) (by omega) ?_)
  intro w1 hm1 hgr
  have hch : Chg (fun i => i = m) w w1 := Chg.trans (b := w.drew) (T := fun i => i = m) (by exact (by repeat first | with_reducible exact Chg.refl _ _ | with_reducible assumption | with_reducible refine Chg.alloc ?_ _ | with_reducible refine Chg.drewN ?_ _ | with_reducible refine Chg.drew ?_ | (refine Chg.set ?_ (by simp <;> omega) _))) (Chg.grown hgr (fun k hk _ => by injection hk with hk; exact hk.symm)) (fun _ _ h => h)
  clear e1
  have hmg : m ≠ g := HH.out.map_ne
  have hmb : m ≠ gb := fun e => by subst e; exact ty_map HM.out _ hty
  have k1 := heap_chg hch HH.out.blk (fun e => hmg e.symm)
  have hty1 : Hid (Ty w1 98 gb) := hty.keep hch (fun e => hmb e.symm)
  have O1 : Hid (OwnHost B w1 x) := HH.out.own.noRow hch (fun b hb => by subst hb; exact noRow_map HM.out)
  obtain ⟨gb', hA', _, _, f1, _, ⟨e0, e1, e2, e3, e4, e5, e6, e7⟩⟩ := box_own O1.out hi
  rw [HA.out] at hA'
  injection hA' with h1
  injection h1 with h1 _ _
  subst h1
  have HM1 : Hid _ := hm1
  have HC : Hid _ := hch
  have K1 : Hid _ := k1
  have zg1 := hgr.size
  have zg2 := lt_of_heap k1
  clear hm1 hgr hch hfz hty c0 c1 c2 c3 c4 c5 c6 c7 c8 c9 c10 c11 c12 cf
  simp only [World.size_drew] at zg1
  obtain ⟨c0, c1, c2, c3, c4, c5, c6, c7, c8, c9, c10, c11, c12, cf⟩ := thirteen k1
  rw [HA.out] at c5
  clear k1 cf
  go_wp2_with fail
  go_end0
  have hd : Hid (y.d.used = true) := by simp [DBox.used, LBox.d, hu, Hid]
  refine ⟨rfl, ?_, ?_⟩
  · show SideR B (set8 w1 gb (i * 8) LBox.zero) g m { x with boxes := x.boxes.set i LBox.zero }
    have hcs := set8_chg w1 gb (i * 8) LBox.zero
    have htm := HT.out.free hp (i := i) (by rw [x.blen2]; exact hi) (by simp only [LHost.d, List.getElem_map]; rw [← HY.out]; exact hd.out)
    have ht : (x.d.boxes[i]'(by rw [x.blen2]; exact hi)).tag = y.tag := by simp only [LHost.d, List.getElem_map]; rw [← HY.out]; rfl
    rw [ht] at htm
    refine ⟨?_, O1.out.set8 HA.out hty1.out i hi LBox.zero (.inl rfl) (fun a ha => by cases ha), ⟨_, (HM1.out.chg hcs (fun e => hmb e)).tight, ?_⟩, HH.out.gB, HH.out.mB⟩
    · rw [heap_chg hcs K1.out (fun e => ty_no K1.out (by decide) (e ▸ hty1.out))]
      simp [sideCells]
    · have e : ({ x with boxes := x.boxes.set i LBox.zero } : LHost).d.boxes = x.d.boxes.set i DBox.zero := by simp [LHost.d, List.map_set]; rfl
      rw [e]; exact htm
  · refine ⟨fun i => i = m ∨ i = gb, Chg.trans (HC.out.mono (fun i _ hi => .inl hi)) (set8_chg w1 gb (i * 8) LBox.zero) (fun k _ hk => .inr hk), fun b hb => ?_⟩
    rcases hb with rfl | rfl
    · exact ⟨HH.out.mB, ty_map HM.out _⟩
    · exact ⟨hBb, fun h => by have := h.one HTY.out; simp at this⟩

theorem SideR.mono {B B' : Nat → Prop} {w : World} {g m : Nat} {x : LHost} (H : SideR B w g m x) (h : ∀ i, B i → i < w.heap.size → B' i) : SideR B' w g m x := by
  obtain ⟨D, hm, t⟩ := H.map
  exact ⟨H.blk, H.own.mono h, ⟨D, hm, t⟩, h g H.gB (lt_of_heap H.blk), h m H.mB hm.lt⟩
theorem Ok_tag {h : DHost} (H : h.Ok) {k : Nat} (hk : k < h.boxes.length) (hu : h.boxes[k].state ≠ 0) : 0 ≤ h.boxes[k].tag ∧ h.boxes[k].tag ≤ 9999 := by
  have := H.boxes.1.1 _ (List.getElem_mem hk)
  unfold DBox.Ok at this
  rw [if_neg hu] at this
  exact ⟨this.2.2.1, this.2.2.2.1⟩
theorem DHost.Bd.boxes {h : DHost} (H : h.Bd) (i : Nat) (b : DBox) (hb : b.f.data.length ≤ 8) : ({ h with boxes := h.boxes.set i b } : DHost).Bd := by
  obtain ⟨h1, h2, h3, h4, h5, h6, h7, h8, h9, h10, h11, h12, h13, h14, h15⟩ := H
  refine ⟨h1, h2, h3, h4, by simpa using h5, h6, h7, h8, h9, h10, h11, h12, fun x hx => ?_, h14, h15⟩
  rcases List.mem_or_eq_of_mem_set hx with hx | rfl
  · exact h13 x hx
  · exact hb

set_option maxHeartbeats 4000000 in
set_option maxRecDepth 100000 in
theorem release_any (w : World) (g m : Nat) (x : LHost) (sent : Bool) (B : Nat → Prop) (hB : ∀ i, w.heap.size ≤ i → B i) (H : SideR B w g m x) (ok : x.d.Ok) :
    Calls Try.prog 35 #[.pointer (some ⟨g, 0, none⟩), .bool sent] w
      (Ret (fun _ : LHost => .tuple #[]) (fun y w' => y.d = x.d.release sent ∧ SideR B w' g m y ∧ Chg B w w')) := by
  have hb8 : x.boxes.length ≤ 8 := by rw [← x.blen2]; exact ok.bd.nb
  have HH : Hid _ := H
  have OK : Hid _ := ok
  have HB : Hid _ := hB
  clear H ok hB
  go_enter Try.func35, Try.ntmps35
  go_wp2_with fail
  refine (busy_any _ g m x B HH.out (by omega)).mono ?_; rintro e w1 ⟨rfl, hbb⟩
  have zz := hbb.size
  have H1 : Hid _ := HH.out.below hbb
  have HBB : Hid _ := hbb
  clear hbb
  rcases firstIx_cases DBox.sending (x.boxes.map LBox.d) with ⟨hi, _⟩ | ⟨k, hk, hi, hs, hrest⟩
  · have HI : Hid _ := hi
    rw [hi]
    clear hi
    go_wp2_with fail
    go_end0
    exact Ret.mk x rfl ⟨(release_none (h := x.d) sent HI.out).symm, H1.out, Chg.of_below HBB.out _⟩
  · have HI : Hid _ := hi
    rw [hi]
    have hkl : k < x.boxes.length := by simpa using hk
    have hsk0 : x.boxes[k].d.sending = true := by simpa using hs
    have hsk : Hid _ := hsk0
    clear hi hs hrest hsk0
    obtain ⟨gb, hA, hlb, hBb, hfz, hty, ⟨e0, e1, e2, e3, e4, e5, e6, e7⟩⟩ := box_own H1.out.own hkl
    obtain ⟨y, hy⟩ : ∃ y, y = x.boxes[k] := ⟨_, rfl⟩
    rw [← hy] at e0 e1 e2 e3 e4 e5 e6 e7 hsk
    have HF : Hid (FrameR True w1 y.f) := by rw [hy]; exact H1.out.own.b.R _ (List.getElem_mem hkl)
    have hyu : y.state ≠ 0 := by
      have := hsk.out
      simp [DBox.sending, LBox.d] at this
      omega
    have hst : y.state = 2 ∨ y.state = 3 := by
      have := hsk.out
      simpa [DBox.sending, LBox.d] using this
    have htag := Ok_tag OK.out (k := k) (by rw [x.blen2]; exact hkl) (by simp only [LHost.d, List.getElem_map]; rw [← hy]; exact hyu)
    have htg : (x.d.boxes[k]'(by rw [x.blen2]; exact hkl)).tag = y.tag := by simp only [LHost.d, List.getElem_map]; rw [← hy]; rfl
    rw [htg] at htag
    obtain ⟨ht0, ht1⟩ := htag
    have hdl : y.f.data.length ≤ 8 := by
      have := OK.out.bd.bd (x.boxes[k].d) (List.mem_map_of_mem (List.getElem_mem hkl))
      rw [← hy] at this; exact this
    have HY : Hid _ := hy
    have HA : Hid _ := hA
    have HT : Hid _ := hty
    obtain ⟨c0, c1, c2, c3, c4, c5, c6, c7, c8, c9, c10, c11, c12, cf⟩ := thirteen H1.out.blk
    have hg1 := lt_of_heap H1.out.blk
    rw [hA] at c5
    clear hy hA hty htg
    cases sent
    · rcases hst with hst | hst
      · have q3 : (y.state == 3) = false := by simp [hst]
        clear hst
        go_wp2_with fail
        go_end0
        have hcs : Chg (fun i => i = gb) w1 (w1.setCell ⟨gb, k * 8, none⟩ (.int .i64 1)) := (by repeat first | with_reducible exact Chg.refl _ _ | with_reducible assumption | with_reducible refine Chg.alloc ?_ _ | with_reducible refine Chg.drewN ?_ _ | with_reducible refine Chg.drew ?_ | (refine Chg.set ?_ (by simp <;> omega) _))
        have hS : SideR B (w1.setCell ⟨gb, k * 8, none⟩ (.int .i64 1)) g m { x with boxes := x.boxes.set k { x.boxes[k] with state := 1 } } := by
          have hmg : m ≠ gb := fun e => by
            obtain ⟨D, hm, _⟩ := H1.out.map
            exact ty_map hm _ (e ▸ HT.out)
          obtain ⟨D, hm, tm⟩ := H1.out.map
          refine ⟨?_, H1.out.own.setState HA.out HT.out k hkl 1, ⟨D, hm.chg hcs hmg, ?_⟩, H1.out.gB, H1.out.mB⟩
          · rw [heap_chg hcs H1.out.blk (fun e => ty_no H1.out.blk (by decide) (e ▸ HT.out))]
            simp [sideCells]
          · rw [map_boxes]
            have hkd : k < x.d.boxes.length := by rw [x.blen2]; exact hkl
            have hb : x.d.boxes[k] = x.boxes[k].d := by simp [LHost.d]
            have := tm.state (i := k) hkd (by rw [hb, ← HY.out]; simp [DBox.used, LBox.d, hyu]) 1 (by decide)
            rw [hb] at this
            exact this
        refine Ret.mk { x with boxes := x.boxes.set k { x.boxes[k] with state := 1 } } rfl ⟨?_, hS.below (by exact (by repeat first | with_reducible exact Below.refl _ _ | with_reducible assumption | with_reducible refine bl_alloc ?_ _ | with_reducible refine bl_drewN ?_ _ | with_reducible refine Below.drew ?_ | (refine bl_set ?_ (by simp <;> omega) _))), ?_⟩
        · rw [map_boxes, release_some (h := x.d) _ (by rw [x.blen2]; exact hkl) HI.out]
          have hs : x.boxes[k].state ≠ 3 := by rw [← HY.out]; simpa using q3
          simp [LHost.d, LBox.d]
          exact fun h9 => absurd h9 hs
        · exact Chg.trans (Chg.of_below HBB.out B) (b := w1) (T := fun i => i = gb) (by exact (by repeat first | with_reducible exact Chg.refl _ _ | with_reducible assumption | with_reducible refine Chg.alloc ?_ _ | with_reducible refine Chg.drewN ?_ _ | with_reducible refine Chg.drew ?_ | (refine Chg.set ?_ (by simp <;> omega) _))) (fun i _ hi => by subst hi; exact hBb)
      · have q3 : (y.state == 3) = true := by simp [hst]
        have HS3 : Hid _ := hst
        clear hst
        go_wp2_with fail
        have hS0 : Hid (SideR (fun i => B i ∧ i ≠ w1.heap.size) (w1.alloc (.cells #[.int .i64 y.state, .int .i64 y.tag, .int .i64 y.stamp, .bool y.f.ext, .int .u32 y.f.id, .bool y.f.rtr, .int .i64 y.f.dlc, .slice y.f.A y.f.data.length y.f.cap] 98)) g m x) := (H1.out.mono (fun i hi hl => ⟨hi, by omega⟩)).below (by exact (by repeat first | with_reducible exact Below.refl _ _ | with_reducible assumption | with_reducible refine bl_alloc ?_ _ | with_reducible refine bl_drewN ?_ _ | with_reducible refine Below.drew ?_ | (refine bl_set ?_ (by simp <;> omega) _)))
        refine (free_any _ g m x _ hS0.out OK.out.boxes.1.2 k hkl hb8 (by rw [← HY.out]; exact hyu) (by rw [← HY.out]; exact ht0) (by rw [← HY.out]; exact ht1)).mono ?_
        rintro e w2 ⟨rfl, h2, S, hch, hSb⟩
        have kb := heap_chg hch (heap_new (W := w1) _ _ rfl) (fun h => (hSb _ h).1.2 rfl)
        have HF2 : Hid (FrameR True w2 y.f) := Cells.chgTy (FrameR.below HF.out (by exact (by repeat first | with_reducible exact Below.refl _ _ | with_reducible assumption | with_reducible refine bl_alloc ?_ _ | with_reducible refine bl_drewN ?_ _ | with_reducible refine Below.drew ?_ | (refine bl_set ?_ (by simp <;> omega) _)))) hch (fun b hb => (hSb b hb).2)
        have C2 : Hid (Chg B w w2) := Chg.trans (Chg.of_below HBB.out B) (Chg.trans (S := B) (Chg.of_below (bl_alloc (Below.refl w1.heap.size w1) _) B) hch (fun i _ hi => (hSb i hi).1.1)) (fun _ _ h => h)
        have z2 := lt_of_heap kb
        obtain ⟨e0, e1, e2, e3, e4, e5, e6, e7, ef⟩ := eight kb
        have H2 : Hid _ := h2
        clear h2 hch hSb kb c0 c1 c2 c3 c4 c5 c6 c7 c8 c9 c10 c11 c12 cf hfz
        go_wp2_with fail
        refine (post_any (p := True) _ g m { x with boxes := x.boxes.set k LBox.zero } (fun i => B i ∧ i ≠ w1.heap.size) (fun i hi => ⟨HB.out i (by omega), by omega⟩) H2.out (by have := OK.out.bd.boxes k DBox.zero (by simp [DBox.zero, DFrame.zero]); rw [map_boxes]; exact this) 6 y.tag 0 LFrame.zero (by simp [LFrame.zero]) (.inl rfl)).mono ?_
        rintro e w3 ⟨z, rfl, hz, h3, hch3⟩
        have HZ : Hid _ := hz
        have H3 : Hid _ := h3
        have C3 : Hid _ := hch3
        clear hz h3 hch3 e0 e1 e2 e3 e4 e5 e6 e7 ef
        go_wp2_with fail
        go_end0
        refine Ret.mk z rfl ⟨?_, H3.out.mono (fun i hi _ => hi.1), Chg.trans C2.out C3.out (fun i _ hi => hi.1)⟩
        rw [HZ.out, map_boxes, release_some (h := x.d) _ (by rw [x.blen2]; exact hkl) HI.out]
        have hx := HY.out
        have hs := HS3.out
        subst hx; simp [LHost.d, LBox.d, DBox.zero, LBox.zero, LFrame.d, LFrame.zero, DFrame.zero, hs]
    · clear hst
      go_wp2_with fail
      have hS0 : Hid (SideR (fun i => B i ∧ i ≠ w1.heap.size) (w1.alloc (.cells #[.int .i64 y.state, .int .i64 y.tag, .int .i64 y.stamp, .bool y.f.ext, .int .u32 y.f.id, .bool y.f.rtr, .int .i64 y.f.dlc, .slice y.f.A y.f.data.length y.f.cap] 98)) g m x) := (H1.out.mono (fun i hi hl => ⟨hi, by omega⟩)).below (by exact (by repeat first | with_reducible exact Below.refl _ _ | with_reducible assumption | with_reducible refine bl_alloc ?_ _ | with_reducible refine bl_drewN ?_ _ | with_reducible refine Below.drew ?_ | (refine bl_set ?_ (by simp <;> omega) _)))
      refine (free_any _ g m x _ hS0.out OK.out.boxes.1.2 k hkl hb8 (by rw [← HY.out]; exact hyu) (by rw [← HY.out]; exact ht0) (by rw [← HY.out]; exact ht1)).mono ?_
      rintro e w2 ⟨rfl, h2, S, hch, hSb⟩
      have kb := heap_chg hch (heap_new (W := w1) _ _ rfl) (fun h => (hSb _ h).1.2 rfl)
      have HF2 : Hid (FrameR True w2 y.f) := Cells.chgTy (FrameR.below HF.out (by exact (by repeat first | with_reducible exact Below.refl _ _ | with_reducible assumption | with_reducible refine bl_alloc ?_ _ | with_reducible refine bl_drewN ?_ _ | with_reducible refine Below.drew ?_ | (refine bl_set ?_ (by simp <;> omega) _)))) hch (fun b hb => (hSb b hb).2)
      have C2 : Hid (Chg B w w2) := Chg.trans (Chg.of_below HBB.out B) (Chg.trans (S := B) (Chg.of_below (bl_alloc (Below.refl w1.heap.size w1) _) B) hch (fun i _ hi => (hSb i hi).1.1)) (fun _ _ h => h)
      have z2 := lt_of_heap kb
      obtain ⟨e0, e1, e2, e3, e4, e5, e6, e7, ef⟩ := eight kb
      have H2 : Hid _ := h2
      clear h2 hch hSb kb c0 c1 c2 c3 c4 c5 c6 c7 c8 c9 c10 c11 c12 cf hfz
      go_wp2_with fail
      refine (post_any (p := True) _ g m { x with boxes := x.boxes.set k LBox.zero } (fun i => B i ∧ i ≠ w1.heap.size) (fun i hi => ⟨HB.out i (by omega), by omega⟩) H2.out (by have := OK.out.bd.boxes k DBox.zero (by simp [DBox.zero, DFrame.zero]); rw [map_boxes]; exact this) 1 y.tag 0 y.f hdl HF2.out).mono ?_
      rintro e w3 ⟨z, rfl, hz, h3, hch3⟩
      have HZ : Hid _ := hz
      have H3 : Hid _ := h3
      have C3 : Hid _ := hch3
      clear hz h3 hch3 e0 e1 e2 e3 e4 e5 e6 e7 ef
      go_wp2_with fail
      go_end0
      refine Ret.mk z rfl ⟨?_, H3.out.mono (fun i hi _ => hi.1), Chg.trans C2.out C3.out (fun i _ hi => hi.1)⟩
      rw [HZ.out, map_boxes, release_some (h := x.d) _ (by rw [x.blen2]; exact hkl) HI.out]
      have hx := HY.out
      subst hx; simp [LHost.d, LBox.d, DBox.zero, LBox.zero, LFrame.d, LFrame.zero, DFrame.zero]
end Go.Proofs.Ytcfhjmflnochcaa
