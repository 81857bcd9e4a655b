/- PROVED: the law 'CarctlServes', run from whatever input of its types, returns true and leaves the input as it was. Conditions: none. -/
import Derived.Test.YtjbdabpjepjohaaRows
import Derived.Test.YtjbdabpjepjohaaFwCarctlS
import Derived.Test.YtjbdabpjepjohaaFwTys
import Derived.WalkKit
import Derived.ProofKit
import Derived.OpenShut
namespace Go.Proofs.Ytjbdabpjepjohaa.carctlServes
open Go.ChangeShapes Go.WideShapes Go.ChangeAt Go.RowKit Lw
set_option linter.unusedVariables false
theorem own : ownKnob Try.prog.godebug = none := by kernel_rfl
set_option maxRecDepth 100000 in
theorem lifted (os : Os) (started : os.Started) (H : Type) (enc : TypeId × Value → H) :
    ReturnsInHanded {} Try.checked os 14 .any (Rows.carctlServesSpec.pre6 enc Try.prog Try.f14 Rows.carctlServesRow.domain false) (Rows.carctlServesSpec.post enc Try.prog Try.f14 false true false false) := by
  refine returnsInHanded_of_change (C := Try.checked) own started (by kernel_rfl) Try.func14
    (ChangeSpec.witness6 (enc := enc) (C := Try.checked) false ⟨#[], #[.agg #[.int .i64 0, .int .i64 0, .int .i64 0, .int .i64 0, .int .i64 0, .int .i64 0, .int .i64 0, .int .i64 0, .int .i64 0, .int .i64 0, .int .i64 0, .int .i64 0, .int .i64 0, .int .i64 0, .int .i64 0, .int .i64 0, .int .i64 0, .int .i64 0], .agg #[.int .i64 0, .int .i64 0, .int .i64 0, .int .i64 0, .int .i64 0, .int .i64 0, .int .i64 0, .bool false, .bool false, .int .i64 0, .int .i64 0, .bool false, .int .u64 0, .int .u64 0, .int .u64 0]], []⟩ 8 (by kernel_rfl) (by kernel_rfl) (by kernel_rfl) (by kernel_rfl)) ?_
  intro W base args ds gs before hval0 hW hcnd _
  have hval : ∀ (j : Nat) t v, Try.f14.params[j]? = some t → args[j]? = some v → Value.okWide Try.prog W .any base t v := hval0
  have hW' := hW
  obtain ⟨p, q, hA0, hV, rfl, hfz, hnd⟩ := hW
  have hA : DataW.TrodAll enc Try.prog W 0 (fun _ => true) true Try.f14.params.toList args.toList ds p := hA0
  rw [Try.params14] at hA hval
  obtain ⟨v0, vs0, d0, ds0, p0, q0, hargs, rfl, rfl, h0, r0⟩ := trodAll_cons hA
  obtain ⟨v1, vs1, d1, ds1, p1, q1, rfl, rfl, rfl, h1, r1⟩ := trodAll_cons r0
  obtain ⟨rfl, rfl, rfl⟩ := trodAll_nil r1
  obtain rfl : args = #[v0, v1] := by cases args; simp_all
  obtain ⟨rfl, rfl⟩ := trodVars_none hV
  obtain ⟨ps0, rfl, k0, w0⟩ := openS (n := 8) (ks := Config.kinds) (by kernel_rfl) (by kernel_rfl) (by kernel_rfl) (hval 0 45 v0 rfl rfl) h0
  obtain ⟨a0, rfl⟩ := Config.dec k0
  obtain ⟨ps1, rfl, k1, w1⟩ := openS (n := 8) (ks := Car.kinds) (by kernel_rfl) (by kernel_rfl) (by kernel_rfl) (hval 1 49 v1 rfl rfl) h1
  obtain ⟨a1, rfl⟩ := Car.dec k1
  refine (_root_.Go.Proofs.Ytjbdabpjepjohaa.h14.run W (fun _ => undef) W [.one (.agg (a0.enc.map .pl)), .one (.agg (a1.enc.map .pl))] [] #[.agg (a0.enc.map PC.val).toArray, .agg (a1.enc.map PC.val).toArray] _ rfl (wf_stopsC w1) (Rep.empty _ W) ⟨relS _, relS _, trivial⟩).mono fun e W' ⟨v, ρ', he, hv, _, hE⟩ => ?_
  subst he
  have hv : v = .bool true := hv
  subst hv
  exact ⟨_, rfl, law_post hW' rfl hE.below (by kernel_rfl) (by kernel_rfl) (tb := 4) (by kernel_rfl) (by kernel_rfl) rfl rfl rfl⟩
theorem over : Rows.carctlServesRow.holds Try.pinned (OpenSpec.ofChange Rows.carctlServesSpec) :=
  OpenClaim.holds_of_wide 14 Try.f14 rfl rfl rfl rfl rfl rfl rfl ⟨rfl, rfl, rfl, rfl, rfl⟩ rfl rfl rfl rfl rfl (by kernel_rfl) Try.func14 (by kernel_rfl)
    (of_decide_eq_true (by kernel_rfl)) (by unfold Func.isWrapper; first | (rw [if_pos (by decide +kernel)]; kernel_rfl) | (rw [if_neg (by decide +kernel)]; exact ⟨rfl, rfl⟩))
    (fun os started H enc _ => lifted os started H enc)
theorem proved : Rows.CarctlServesSaid := over
#print axioms proved
end Go.Proofs.Ytjbdabpjepjohaa.carctlServes
