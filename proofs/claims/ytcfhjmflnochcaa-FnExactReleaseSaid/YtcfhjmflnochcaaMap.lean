/-
  Maps from whole numbers to whole numbers, and the tags and stamps of boxes.
-/
import Derived.Test.YtcfhjmflnochcaaMod
import Derived.Test.YtcfhjmflnochcaaApp
import Derived.Maps.OwnSet
set_option linter.unusedVariables false
set_option linter.unusedSimpArgs false
namespace Go.Proofs.Ytcfhjmflnochcaa
open Go.RowKit

theorem wf_i64 {a : Int} (h0 : 0 ≤ a) (h1 : a ≤ 9223372036854775807) : (Lit.int .i64 a).wf = true := by
  have e1 : IntKind.i64.min = -9223372036854775808 := by decide
  have e2 : IntKind.i64.max = 9223372036854775807 := by decide
  simp only [Lit.wf, e1, e2, Bool.and_eq_true, decide_eq_true_eq]
  omega
theorem intMap : Maps.Keyed Try.prog 3 := Maps.int_keyed Try.underlying3
theorem key_i64 {a : Int} (h0 : 0 ≤ a) (h1 : a ≤ 9223372036854775807) : keyOf Try.prog 3 (.int .i64 a) = some (.int .i64 a) := Maps.keyOf_int_mk Try.underlying3 (wf_i64 h0 h1)
theorem elem_i64 {a : Int} (h0 : 0 ≤ a) (h1 : a ≤ 9223372036854775807) : plainElem (H := Unit) Try.prog 3 (.int .i64 a) = some (.lit (.int .i64 a), []) := plainElem_int Try.underlying3 (wf_i64 h0 h1)
theorem zeroInt (w : World) : (zeroValue 3).run Try.prog w = .ok (.int .i64 0) w := by kernel_rfl
theorem isKey_i64 (a : Int) : WideAt.IsKeyLit (.int .i64 a) := trivial

/-- Block b is a map of at most n numbers that reads as D. -/
structure MapAt (w : World) (b n : Nat) (D : DataW Unit) : Prop where
  own : w.ownsMap Try.prog 3 (plainElem Try.prog 3) b n D
theorem MapAt.made {W : World} {b : Nat} (hb : W.heap.size = b) : MapAt (W.alloc (.map #[] 0)) b 0 (.map []) := by
  subst hb; exact ⟨World.ownsMap_made W _ _ _⟩
theorem MapAt.lt {w : World} {b n : Nat} {D : DataW Unit} (h : MapAt w b n D) : b < w.heap.size := World.ownsMap.lt h.own
theorem MapAt.obj {w : World} {b n : Nat} {D : DataW Unit} (h : MapAt w b n D) : ∃ es clock, w.heap[b]? = some (.map es clock) := by
  obtain ⟨⟨es, clock, h, _⟩⟩ := h; exact ⟨es, clock, h⟩
theorem MapAt.keep {w w' : World} {b n : Nat} {D : DataW Unit} (h : MapAt w b n D) (hk : w'.heap[b]? = w.heap[b]?) : MapAt w' b n D := by
  obtain ⟨⟨es, clock, hb, r⟩⟩ := h
  exact ⟨⟨es, clock, hk.trans hb, r⟩⟩
theorem MapAt.below {w w' : World} {b n : Nat} {D : DataW Unit} (h : MapAt w b n D) (hb : Below w.heap.size w w') : MapAt w' b n D := h.keep (hb.block b h.lt)
theorem MapAt.chg {S : Nat → Prop} {w w' : World} {b n : Nat} {D : DataW Unit} (h : MapAt w b n D) (hb : Chg S w w') (hs : ¬ S b) : MapAt w' b n D := h.keep (hb.block b h.lt hs)
theorem MapAt.grown {row : Option Nat} {w w' : World} {b n : Nat} {D : DataW Unit} (h : MapAt w b n D) (hb : w.grownBy w' row) (hs : some b ≠ row) : MapAt w' b n D := h.keep (hb.block b h.lt hs)
theorem MapAt.le {w : World} {b n : Nat} {D : DataW Unit} (h : MapAt w b n D) : Maps.size D ≤ n := World.ownsMap.size_le h.own
theorem MapAt.mono {w : World} {b n m : Nat} {D : DataW Unit} (h : MapAt w b n D) (k : n ≤ m) : MapAt w b m D := ⟨World.ownsMap.mono h.own k⟩
theorem MapAt.tight {w : World} {b n : Nat} {D : DataW Unit} (h : MapAt w b n D) : MapAt w b (Maps.size D) D := by
  obtain ⟨⟨es, clock, hb, F, hs, rfl⟩⟩ := h
  exact ⟨⟨es, clock, hb, F, by simp only [Maps.size]; rw [length_read]; exact Nat.le_refl _, rfl⟩⟩

theorem wp_upd {o : Oper} {a : Act} {K : Act → World → Prop} {Q : Exit → Act → World → Prop} (W : World) (m x v : Operand) (ho : o.op = Op.mapUpdate 110 m x v) (b n : Nat) (D : DataW Unit)
    (hm : a.eval m = .map (some b)) (hown : MapAt W b n D) (hn : n < 1000000000) (k c : Int) (hx : a.eval x = .int .i64 k) (hv : a.eval v = .int .i64 c) (hk0 : 0 ≤ k) (hk1 : k ≤ 9223372036854775807) (hc0 : 0 ≤ c) (hc1 : c ≤ 9223372036854775807)
    (h : ∀ w', MapAt w' b (n + 1) (D.put (.int .i64 k) (.lit (.int .i64 c))) → W.grownBy w' (some b) → K (a.put o.dst undef) w') : o.wp Try.prog a W K Q := by
  obtain ⟨w', hrun, r1, r2⟩ := hown.own.update (t := 110) intMap Try.underlying110 (by unfold maxLen; omega) (key_i64 hk0 hk1) (elem_i64 hc0 hc1)
  unfold Oper.wp
  simp [execOp, ho, hm, hx, hv, hrun, Result.andThen]
  exact h w' ⟨r1⟩ r2
theorem wpl_upd {ops : Array Oper} {rest : List Oper} {o : Oper} {a : Act} {Q : Exit → Act → World → Prop} (W : World) (hgd : o.guard = none) (m x v : Operand) (ho : o.op = Op.mapUpdate 110 m x v) (b n : Nat) (D : DataW Unit)
    (hm : a.eval m = .map (some b)) (hown : MapAt W b n D) (hn : n < 1000000000) (k c : Int) (hx : a.eval x = .int .i64 k) (hv : a.eval v = .int .i64 c) (hk0 : 0 ≤ k) (hk1 : k ≤ 9223372036854775807) (hc0 : 0 ≤ c) (hc1 : c ≤ 9223372036854775807)
    (h : ∀ w', MapAt w' b (n + 1) (D.put (.int .i64 k) (.lit (.int .i64 c))) → W.grownBy w' (some b) → wpList Try.prog ops Q rest (a.put o.dst undef) w') : wpList Try.prog ops Q (o :: rest) a W :=
  wpList_plain hgd fun K hK => wp_upd W m x v ho b n D hm hown hn k c hx hv hk0 hk1 hc0 hc1 fun w' r1 r2 => hK _ _ (h w' r1 r2)
theorem step_upd {ops : Array Oper} {o : Oper} {a : Act} {K : Act → World → Prop} {Q : Exit → Act → World → Prop} {E : Prop} (W : World) (hgd : o.guard = none) (m x v : Operand) (ho : o.op = Op.mapUpdate 110 m x v) (b n : Nat) (D : DataW Unit)
    (hm : a.eval m = .map (some b)) (hown : MapAt W b n D) (hn : n < 1000000000) (k c : Int) (hx : a.eval x = .int .i64 k) (hv : a.eval v = .int .i64 c) (hk0 : 0 ≤ k) (hk1 : k ≤ 9223372036854775807) (hc0 : 0 ≤ c) (hc1 : c ≤ 9223372036854775807)
    (h : ∀ w', MapAt w' b (n + 1) (D.put (.int .i64 k) (.lit (.int .i64 c))) → W.grownBy w' (some b) → K (a.put o.dst undef) w') : if Region.wanted o (yielded ops a.tmps) = true then Oper.wp Try.prog o a W K Q else E := by
  have hw : Region.wanted o (yielded ops a.tmps) = true := by simp [Region.wanted, hgd]
  rw [if_pos hw]
  exact wp_upd W m x v ho b n D hm hown hn k c hx hv hk0 hk1 hc0 hc1 h
theorem run_upd {W : World} {b n : Nat} {D : DataW Unit} (hown : MapAt W b n D) (hn : n < 1000000000) (k c : Int) (hk0 : 0 ≤ k) (hk1 : k ≤ 9223372036854775807) (hc0 : 0 ≤ c) (hc1 : c ≤ 9223372036854775807) :
    ∃ w', (Instr.mapUpdate 110 (.map (some b)) (.int .i64 k) (.int .i64 c)).run Try.prog W = .ok () w' ∧ MapAt w' b (n + 1) (D.put (.int .i64 k) (.lit (.int .i64 c))) ∧ W.grownBy w' (some b) := by
  obtain ⟨w', hrun, r1, r2⟩ := hown.own.update (t := 110) intMap Try.underlying110 (by unfold maxLen; omega) (key_i64 hk0 hk1) (elem_i64 hc0 hc1)
  exact ⟨w', hrun, ⟨r1⟩, r2⟩
theorem upon_of {o : Oper} {a : Act} {next : Act → World → Prop} {Q : Exit → Act → World → Prop} {α : Type} {r : Result α} {x : α} {w' : World} (h : r = .ok x w') (k : next (a.put o.dst undef) w') :
    Oper.upon Try.prog o a next Q (r.andThen fun _ w' => Result.ok Next.skip w') := by
  subst h; exact k
set_option maxRecDepth 100000 in
theorem upon_upd {o : Oper} {a : Act} {next : Act → World → Prop} {Q : Exit → Act → World → Prop} (W : World) (b n : Nat) (D : DataW Unit) (hown : MapAt W b n D) (hn : n < 1000000000) (k c : Int) (hk0 : 0 ≤ k) (hk1 : k ≤ 9223372036854775807) (hc0 : 0 ≤ c) (hc1 : c ≤ 9223372036854775807)
    (h : ∀ w', MapAt w' b (n + 1) (D.put (.int .i64 k) (.lit (.int .i64 c))) → W.grownBy w' (some b) → next (a.put o.dst undef) w') :
    Oper.upon Try.prog o a next Q (((Instr.mapUpdate 110 (.map (some b)) (.int .i64 k) (.int .i64 c)).run Try.prog W).andThen fun _ w' => Result.ok Next.skip w') :=
  (run_upd hown hn k c hk0 hk1 hc0 hc1).elim fun w' r => upon_of r.1 (h w' r.2.1 r.2.2)
theorem wp_del {o : Oper} {a : Act} {K : Act → World → Prop} {Q : Exit → Act → World → Prop} (W : World) (m x : Operand) (ho : o.op = Op.call { callee := Callee.builtin Builtin.delete, args := #[m, x], argTypes := #[110, 3] }) (b n : Nat) (D : DataW Unit)
    (hm : a.eval m = .map (some b)) (hown : MapAt W b n D) (k : Int) (hx : a.eval x = .int .i64 k) (hk0 : 0 ≤ k) (hk1 : k ≤ 9223372036854775807)
    (h : ∀ w', MapAt w' b n (D.del (.int .i64 k)) → W.grownBy w' (some b) → K (a.put o.dst (.tuple #[])) w') : o.wp Try.prog a W K Q := by
  obtain ⟨w', hrun, r1, r2⟩ := hown.own.drop (t := 110) intMap Try.underlying110 (key_i64 hk0 hk1) o.type
  unfold Oper.wp
  simp [execOp, ho, resolve, invoke, builtin, hm, hx, hrun, Result.andThen]
  exact h w' ⟨r1⟩ r2.grown
theorem step_del {ops : Array Oper} {o : Oper} {a : Act} {K : Act → World → Prop} {Q : Exit → Act → World → Prop} {E : Prop} (W : World) (hgd : o.guard = none) (m x : Operand) (ho : o.op = Op.call { callee := Callee.builtin Builtin.delete, args := #[m, x], argTypes := #[110, 3] }) (b n : Nat) (D : DataW Unit)
    (hm : a.eval m = .map (some b)) (hown : MapAt W b n D) (k : Int) (hx : a.eval x = .int .i64 k) (hk0 : 0 ≤ k) (hk1 : k ≤ 9223372036854775807)
    (h : ∀ w', MapAt w' b n (D.del (.int .i64 k)) → W.grownBy w' (some b) → K (a.put o.dst (.tuple #[])) w') : if Region.wanted o (yielded ops a.tmps) = true then Oper.wp Try.prog o a W K Q else E := by
  have hw : Region.wanted o (yielded ops a.tmps) = true := by simp [Region.wanted, hgd]
  rw [if_pos hw]
  exact wp_del W m x ho b n D hm hown k hx hk0 hk1 h
theorem wp_lenM {o : Oper} {a : Act} {K : Act → World → Prop} {Q : Exit → Act → World → Prop} (W : World) (m : Operand) (ho : o.op = Op.call { callee := Callee.builtin Builtin.len, args := #[m], argTypes := #[110] }) (b n : Nat) (D : DataW Unit)
    (hm : a.eval m = .map (some b)) (hown : MapAt W b n D)
    (h : K (a.put o.dst (.int .i64 (Maps.size D))) W) : o.wp Try.prog a W K Q := by
  unfold Oper.wp
  simp [execOp, ho, resolve, invoke, builtin, hm, hown.own.len (t := 110) Try.underlying110 o.type, Result.andThen]
  exact h
theorem wpl_lenM {ops : Array Oper} {rest : List Oper} {o : Oper} {a : Act} {Q : Exit → Act → World → Prop} (W : World) (hgd : o.guard = none) (m : Operand) (ho : o.op = Op.call { callee := Callee.builtin Builtin.len, args := #[m], argTypes := #[110] }) (b n : Nat) (D : DataW Unit)
    (hm : a.eval m = .map (some b)) (hown : MapAt W b n D)
    (h : wpList Try.prog ops Q rest (a.put o.dst (.int .i64 (Maps.size D))) W) : wpList Try.prog ops Q (o :: rest) a W :=
  wpList_plain hgd fun K hK => wp_lenM W m ho b n D hm hown (hK _ _ h)
theorem run_look {W : World} {b n : Nat} {D : DataW Unit} (hown : MapAt W b n D) (k : Int) (hk0 : 0 ≤ k) (hk1 : k ≤ 9223372036854775807) :
    ∃ c : Int, (Instr.lookup 110 (.map (some b)) (.int .i64 k) true).run Try.prog W = .ok (.tuple #[.int .i64 c, .bool (Maps.has D (.int .i64 k))]) W ∧ D.atKey (.int .i64 k) (.lit (.int .i64 0)) = .lit (.int .i64 c) := by
  obtain ⟨v, ps, hrun, hv⟩ := hown.own.look_ok (t := 110) intMap Try.underlying110 (zeroInt W) (zd := .lit (.int .i64 0)) (zp := []) (elem_i64 (by omega) (by omega)) (key_i64 hk0 hk1)
  obtain ⟨c, rfl, hc, _⟩ := plainElem_int_inv Try.underlying3 hv
  exact ⟨c, hrun, congrArg Prod.fst hc⟩

/-- The map's keys are the numbers of ts. -/
structure KM (D : DataW Unit) (ts : List Int) : Prop where
  tidy : Maps.Tidy D
  has : ∀ t, Maps.has D (.int .i64 t) = decide (t ∈ ts)
  le : Maps.size D ≤ ts.length
  eq : Maps.size D = ts.length ↔ ts.Nodup
theorem KM.nil : KM (.map []) [] := ⟨Maps.tidy_empty, fun t => rfl, Nat.le_refl _, by simp [Maps.size]⟩
theorem nodup_snoc {ts : List Int} {t : Int} : (ts ++ [t]).Nodup ↔ ts.Nodup ∧ t ∉ ts := by
  rw [List.nodup_append]
  constructor
  · intro ⟨h1, _, h3⟩
    exact ⟨h1, fun h => h3 t h t (by simp) rfl⟩
  · intro ⟨h1, h2⟩
    exact ⟨h1, by simp, fun a ha b hb e => by simp at hb; subst hb; subst e; exact h2 ha⟩
theorem KM.put {D : DataW Unit} {ts : List Int} (h : KM D ts) (t : Int) (d : DataW Unit) : KM (D.put (.int .i64 t) d) (ts ++ [t]) := by
  refine ⟨h.tidy.put (isKey_i64 t) d, fun s => ?_, ?_, ?_⟩
  · by_cases e : s = t
    · subst e; rw [Maps.has_put_same h.tidy.isMap (isKey_i64 s)]; simp
    · rw [Maps.has_put_other (fun e2 => e (by injection e2)), h.has]; simp [e]
  · rw [Maps.size_put h.tidy]
    have := h.le
    simp only [List.length_append, List.length_singleton]
    split <;> omega
  · rw [Maps.size_put h.tidy, h.has, nodup_snoc, List.length_append, List.length_singleton]
    have h1 := h.le
    have h2 := h.eq
    by_cases e : t ∈ ts
    · simp only [e, decide_true, if_true, not_true_eq_false, and_false, iff_false]; omega
    · simp only [e, decide_false, Bool.false_eq_true, if_false, not_false_eq_true, and_true, ← h2]; omega

def DBox.used (b : DBox) : Bool := b.state != 0
def tagsOf (bs : List DBox) : List Int := (bs.filter DBox.used).map DBox.tag
def stampsOf (bs : List DBox) : List Int := (bs.filter DBox.used).map DBox.stamp
theorem filter_pair {bs : List DBox} (g : DBox → Int) : ((bs.filter DBox.used).map g).Nodup ↔ bs.Pairwise (fun x y => x.state ≠ 0 → y.state ≠ 0 → g x ≠ g y) := by
  unfold List.Nodup
  rw [List.pairwise_map, List.pairwise_filter]
  simp [DBox.used]
theorem pair_iff (bs : List DBox) : bs.Pairwise Beside ↔ (tagsOf bs).Nodup ∧ (stampsOf bs).Nodup := by
  unfold tagsOf stampsOf
  rw [filter_pair, filter_pair, ← List.pairwise_and_iff]
  constructor
  · exact fun h => h.imp fun h => ⟨fun a b => (h a b).1, fun a b => (h a b).2⟩
  · exact fun h => h.imp fun h a b => ⟨h.1 a b, h.2 a b⟩
theorem used_succ {bs : List DBox} {k : Nat} (hk : k < bs.length) (g : DBox → Int) : ((bs.take (k + 1)).filter DBox.used).map g = ((bs.take k).filter DBox.used).map g ++ if bs[k].used then [g bs[k]] else [] := by
  rw [List.take_succ_eq_append_getElem hk, List.filter_append, List.map_append]
  congr 1
  by_cases h : bs[k].used <;> simp [List.filter_cons, h]
theorem tags_len (bs : List DBox) : (tagsOf bs).length = bs.countP DBox.used := by simp [tagsOf, List.countP_eq_length_filter]
theorem stamps_len (bs : List DBox) : (stampsOf bs).length = bs.countP DBox.used := by simp [stampsOf, List.countP_eq_length_filter]
end Go.Proofs.Ytcfhjmflnochcaa
