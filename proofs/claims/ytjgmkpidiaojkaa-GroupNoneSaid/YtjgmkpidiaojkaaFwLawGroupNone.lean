/- PROVED: the law 'GroupNone', run from whatever input of its types, returns true and leaves the input as it was. Conditions: none. -/
import Derived.Test.YtjgmkpidiaojkaaRows
import Derived.Test.YtjgmkpidiaojkaaFwGrpL
import Derived.Test.YtjgmkpidiaojkaaFwTys
import Derived.WalkKit
import Derived.ProofKit
import Derived.OpenShut
namespace Go.Proofs.Ytjgmkpidiaojkaa.groupNone
open Go.ChangeShapes Go.WideShapes Go.ChangeAt Go.RowKit Lw
set_option linter.unusedVariables false
theorem own : ownKnob Try.prog.godebug = none := by kernel_rfl
set_option maxRecDepth 100000 in
theorem lifted (os : Os) (started : os.Started) (H : Type) (enc : TypeId × Value → H) :
    ReturnsInHanded {} Try.checked os 5 .any (Rows.groupNoneSpec.pre6 enc Try.prog Try.f5 Rows.groupNoneRow.domain false) (Rows.groupNoneSpec.post enc Try.prog Try.f5 false true false false) := by
  refine returnsInHanded_of_change (C := Try.checked) own started (by kernel_rfl) Try.func5
    (ChangeSpec.witness6 (enc := enc) (C := Try.checked) false ⟨#[], #[.agg #[.int .i64 0, .int .i64 0, .int .i64 0, .bool false]], []⟩ 8 (by kernel_rfl) (by kernel_rfl) (by kernel_rfl) (by kernel_rfl)) ?_
  intro W base args ds gs before hval0 hW hcnd _
  have hval : ∀ (j : Nat) t v, Try.f5.params[j]? = some t → args[j]? = some v → Value.okWide Try.prog W .any base t v := hval0
  have hW' := hW
  obtain ⟨p, q, hA0, hV, rfl, hfz, hnd⟩ := hW
  have hA : DataW.TrodAll enc Try.prog W 0 (fun _ => true) true Try.f5.params.toList args.toList ds p := hA0
  rw [Try.params5] at hA hval
  obtain ⟨v0, vs0, d0, ds0, p0, q0, hargs, rfl, rfl, h0, r0⟩ := trodAll_cons hA
  obtain ⟨rfl, rfl, rfl⟩ := trodAll_nil r0
  obtain rfl : args = #[v0] := by cases args; simp_all
  obtain ⟨rfl, rfl⟩ := trodVars_none hV
  obtain ⟨ps0, rfl, k0, w0⟩ := openS (n := 8) (ks := GOp.kinds) (by kernel_rfl) (by kernel_rfl) (by kernel_rfl) (hval 0 28 v0 rfl rfl) h0
  obtain ⟨a0, rfl⟩ := GOp.dec k0
  refine (_root_.Go.Proofs.Ytjgmkpidiaojkaa.h5.run W (fun _ => undef) W [.one (.agg (a0.enc.map .pl))] [] #[.agg (a0.enc.map PC.val).toArray] _ rfl trivial (Rep.empty _ W) ⟨relS _, trivial⟩).mono fun e W' ⟨v, ρ', he, hv, _, hE⟩ => ?_
  subst he
  have hv : v = .bool true := hv
  subst hv
  exact ⟨_, rfl, law_post hW' rfl hE.below (by kernel_rfl) (by kernel_rfl) (tb := 4) (by kernel_rfl) (by kernel_rfl) rfl rfl rfl⟩
theorem over : Rows.groupNoneRow.holds Try.pinned (OpenSpec.ofChange Rows.groupNoneSpec) :=
  OpenClaim.holds_of_wide 5 Try.f5 rfl rfl rfl rfl rfl rfl rfl ⟨rfl, rfl, rfl, rfl, rfl⟩ rfl rfl rfl rfl rfl (by kernel_rfl) Try.func5 (by kernel_rfl)
    (of_decide_eq_true (by kernel_rfl)) (by unfold Func.isWrapper; first | (rw [if_pos (by decide +kernel)]; kernel_rfl) | (rw [if_neg (by decide +kernel)]; exact ⟨rfl, rfl⟩))
    (fun os started H enc _ => lifted os started H enc)
theorem proved : Rows.GroupNoneSaid := over
#print axioms proved
end Go.Proofs.Ytjgmkpidiaojkaa.groupNone
