/- PROVED: the law 'DoorWhole', run from whatever input of its types, returns true and leaves the input as it was. Conditions: none. -/
import Derived.Test.YtgkhhfdbjcjamaaRows
import Derived.Test.YtgkhhfdbjcjamaaFwDoorL
import Derived.Test.YtgkhhfdbjcjamaaFwTys
import Derived.WalkKit
import Derived.ProofKit
import Derived.OpenShut
namespace Go.Proofs.Ytgkhhfdbjcjamaa.doorWhole
open Go.ChangeShapes Go.WideShapes Go.ChangeAt Go.RowKit Lw
set_option linter.unusedVariables false
theorem own : ownKnob Try.prog.godebug = none := by kernel_rfl
set_option maxRecDepth 100000 in
theorem lifted (os : Os) (started : os.Started) (H : Type) (enc : TypeId × Value → H) :
    ReturnsInHanded {} Try.checked os 10 .any (Rows.doorWholeSpec.pre6 enc Try.prog Try.f10 Rows.doorWholeRow.domain false) (Rows.doorWholeSpec.post enc Try.prog Try.f10 false true false false) := by
  refine returnsInHanded_of_change (C := Try.checked) own started (by kernel_rfl) Try.func10
    (ChangeSpec.witness6 (enc := enc) (C := Try.checked) false ⟨#[], #[.int .u16 0, .bool false], []⟩ 8 (by kernel_rfl) (by kernel_rfl) (by kernel_rfl) (by kernel_rfl)) ?_
  intro W base args ds gs before hval0 hW hcnd _
  have hval : ∀ (j : Nat) t v, Try.f10.params[j]? = some t → args[j]? = some v → Value.okWide Try.prog W .any base t v := hval0
  have hW' := hW
  obtain ⟨p, q, hA0, hV, rfl, hfz, hnd⟩ := hW
  have hA : DataW.TrodAll enc Try.prog W 0 (fun _ => true) true Try.f10.params.toList args.toList ds p := hA0
  rw [Try.params10] at hA hval
  obtain ⟨v0, vs0, d0, ds0, p0, q0, hargs, rfl, rfl, h0, r0⟩ := trodAll_cons hA
  obtain ⟨v1, vs1, d1, ds1, p1, q1, rfl, rfl, rfl, h1, r1⟩ := trodAll_cons r0
  obtain ⟨rfl, rfl, rfl⟩ := trodAll_nil r1
  obtain rfl : args = #[v0, v1] := by cases args; simp_all
  obtain ⟨rfl, rfl⟩ := trodVars_none hV
  obtain ⟨a0, rfl, _, _, w0⟩ := open_int (t := 45) (k := .u16) (by kernel_rfl) (hval 0 45 v0 rfl rfl) h0
  obtain ⟨a1, rfl, _, _⟩ := open_bool (t := 4) (by kernel_rfl) (hval 1 4 v1 rfl rfl) h1
  refine (_root_.Go.Proofs.Ytgkhhfdbjcjamaa.h10.run W (fun _ => undef) W [.one (.c (.pl (.int .u16 a0))), vb a1] [] #[.int .u16 a0, .bool a1] _ rfl (wf_u16 w0) (Rep.empty _ W) ⟨rfl, rfl, trivial⟩).mono fun e W' ⟨v, ρ', he, hv, _, hE⟩ => ?_
  subst he
  have hv : v = .bool true := hv
  subst hv
  exact ⟨_, rfl, law_post hW' rfl hE.below (by kernel_rfl) (by kernel_rfl) (tb := 4) (by kernel_rfl) (by kernel_rfl) rfl rfl rfl⟩
theorem over : Rows.doorWholeRow.holds Try.pinned (OpenSpec.ofChange Rows.doorWholeSpec) :=
  OpenClaim.holds_of_wide 10 Try.f10 rfl rfl rfl rfl rfl rfl rfl ⟨rfl, rfl, rfl, rfl, rfl⟩ rfl rfl rfl rfl rfl (by kernel_rfl) Try.func10 (by kernel_rfl)
    (of_decide_eq_true (by kernel_rfl)) (by unfold Func.isWrapper; first | (rw [if_pos (by decide +kernel)]; kernel_rfl) | (rw [if_neg (by decide +kernel)]; exact ⟨rfl, rfl⟩))
    (fun os started H enc _ => lifted os started H enc)
theorem proved : Rows.DoorWholeSaid := over
#print axioms proved
end Go.Proofs.Ytgkhhfdbjcjamaa.doorWhole
