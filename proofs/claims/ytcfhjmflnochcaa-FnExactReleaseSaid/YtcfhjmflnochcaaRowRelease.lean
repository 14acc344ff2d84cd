/- The program's Release answers as the reference's Release, for every host and argument that can be read; it writes into no argument and shares nothing with one. No condition. -/
import Derived.Test.YtcfhjmflnochcaaRows
import Derived.Test.YtcfhjmflnochcaaLawRelease
import Derived.ProofKit
import Derived.OpenShut
import Derived.ChangeOld
import Derived.SizedLaws
set_option linter.unusedVariables false
set_option linter.unusedSimpArgs false
namespace Go.Proofs.Ytcfhjmflnochcaa.fnExactRelease
open Go.ChangeShapes Go.WideShapes Go.ChangeAt Go.RowKit
theorem own : ownKnob Try.prog.godebug = none := by kernel_rfl
theorem laidOut : laidOutB Try.prog = true := by kernel_rfl
set_option maxRecDepth 100000 in
theorem lifted (os : Os) (started : os.Started) (H : Type) (enc : TypeId × Value → H) :
    ReturnsInHanded {} Try.checked os 3 .any (Rows.fnExactReleaseSpec.pre6 enc Try.prog Try.f3 Rows.fnExactReleaseRow.domain false) (Rows.fnExactReleaseSpec.post enc Try.prog Try.f3 false true false false) := by
  refine returnsInHanded_of_change_sized (C := Try.checked) own started (by kernel_rfl) Try.func3
    (ChangeSpec.witness6 (enc := enc) (C := Try.checked) false ⟨#[], #[.agg #[.int .i64 0, .int .i64 0, .int .i64 0, .int .i64 0, .slice none 0 0, .slice none 0 0, .slice none 0 0, .slice none 0 0, .int .i64 0, .int .i64 0], .bool false], []⟩ 8 (by kernel_rfl) (by kernel_rfl) (by kernel_rfl) (by kernel_rfl)) ?_
  intro W base args ds gs before hval0 hW hcnd hsz0 _
  have hval : ∀ (j : Nat) t v, Try.f3.params[j]? = some t → args[j]? = some v → Value.okWide Try.prog W .any base t v := hval0
  have hW' := hW
  obtain ⟨p, q, hA0, hV, rfl, hfz, hnd⟩ := hW
  have hA : DataW.TrodAll enc Try.prog W 0 (fun _ => true) true Try.f3.params.toList args.toList ds p := hA0
  rw [Try.params3] at hA hval
  obtain ⟨v0, vs0, d0, ds0, p0, q0, hargs, rfl, rfl, h0, r0⟩ := trodAll_cons hA
  obtain ⟨v1, vs1, d1, ds1, p1, q1, rfl, rfl, rfl, h1, r1⟩ := trodAll_cons r0
  obtain ⟨rfl, rfl, rfl⟩ := trodAll_nil r1
  obtain rfl : args = #[v0, v1] := by cases args; simp_all
  obtain ⟨rfl, rfl⟩ := trodVars_none hV
  have k0 := h0
  have lt0 : ∀ x ∈ p0, x.block < W.heap.size := by obtain ⟨m, hm⟩ := k0; exact DataW.trod_lt m _ _ _ hm
  obtain ⟨cs0, rfl⟩ : ∃ cs, v0 = .agg cs := by
    have hv := (hval 0 29 v0 rfl rfl)
    unfold Value.okWide at hv
    rw [Try.underlying29] at hv
    obtain ⟨cs, rfl, _⟩ := hv
    exact ⟨cs, rfl⟩
  obtain ⟨x0, e0, H0, l1, l2, l3, l4, l5, l6, l7⟩ : ∃ f : LHost, cs0.toList = f.cs ∧ HostR False 107 87 46 90 W f ∧ f.filters.length ≤ 9223372036854775807 ∧ f.boxes.length ≤ 9223372036854775807 ∧ f.fifo.length ≤ 9223372036854775807 ∧ f.queue.length ≤ 9223372036854775807 ∧ (∀ x ∈ f.boxes, x.f.data.length ≤ 9223372036854775807) ∧ (∀ x ∈ f.fifo, x.data.length ≤ 9223372036854775807) ∧ (∀ x ∈ f.queue, x.f.data.length ≤ 9223372036854775807) := by
    obtain ⟨fuel, hf⟩ := h0
    exact openHost hf
  obtain rfl : cs0 = x0.cs.toArray := by rw [← e0]
  obtain ⟨a1, rfl, rfl, rfl⟩ := open_bool Try.underlying4 (hval 1 4 v1 rfl rfl) h1
  clear hA0 hval0 hsz0
  refine (FnExactRelease_any W x0 a1 ⟨l1, l2, l3, l4, l5, l6, l7⟩ H0).mono fun e W' ⟨he, bel⟩ => ?_
  subst he
  exact ⟨_, rfl, _, _, _, [], _, [], hW', trodAll_mk1 (shut_bool Try.underlying4 _), (trodAll_cons_mk (Below.trod laidOut (by kernel_rfl) (of_decide_eq_true (by kernel_rfl)) k0 bel lt0) (trodAll_cons_mk (shut_bool Try.underlying4 _) trodAll_mk0)), rfl, bel.frame _, fun h => by cases h⟩
theorem over : Rows.fnExactReleaseRow.holds Try.pinned (OpenSpec.ofChange Rows.fnExactReleaseSpec) :=
  OpenClaim.holds_of_wide 3 Try.f3 rfl rfl rfl rfl rfl rfl rfl ⟨rfl, rfl, rfl, rfl, rfl⟩ rfl rfl rfl rfl rfl (by kernel_rfl) Try.func3 (by kernel_rfl)
    (of_decide_eq_true (by kernel_rfl)) (by unfold Func.isWrapper; first | (rw [if_pos (by decide +kernel)]; kernel_rfl) | (rw [if_neg (by decide +kernel)]; exact ⟨rfl, rfl⟩))
    (fun os started H enc _ => lifted os started H enc)
theorem proved : Rows.FnExactReleaseSaid := over
#print axioms proved
end Go.Proofs.Ytcfhjmflnochcaa.fnExactRelease
namespace Go.Proofs.Ytcfhjmflnochcaa
/-- The row, under a short name, for the claim. -/
theorem fnExactRelease_holds : Rows.FnExactReleaseSaid := fnExactRelease.proved
end Go.Proofs.Ytcfhjmflnochcaa
