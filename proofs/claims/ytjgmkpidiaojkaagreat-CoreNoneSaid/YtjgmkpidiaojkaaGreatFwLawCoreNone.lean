/- PROVED: the law 'CoreNone', run from whatever input of its types, returns true and leaves the input as it was. Conditions: none. -/
import Derived.Test.YtjgmkpidiaojkaaGreatRows
import Derived.Test.YtjgmkpidiaojkaaGreatFwCorL
import Derived.Test.YtjgmkpidiaojkaaGreatFwTys
import Derived.WalkKit
import Derived.ProofKit
import Derived.OpenShut
namespace Go.Proofs.YtjgmkpidiaojkaaGreat.coreNone
open Go.ChangeShapes Go.WideShapes Go.ChangeAt Go.RowKit Lw
set_option linter.unusedVariables false
theorem own : ownKnob Tryz.prog.godebug = none := by kernel_rfl
set_option maxRecDepth 100000 in
theorem lifted (os : Os) (started : os.Started) (H : Type) (enc : TypeId × Value → H) :
    ReturnsInHanded {} Tryz.checked os 5 .any (Rows.coreNoneSpec.pre6 enc Tryz.prog Tryz.f5 Rows.coreNoneRow.domain false) (Rows.coreNoneSpec.post enc Tryz.prog Tryz.f5 false true false false) := by
  refine returnsInHanded_of_change (C := Tryz.checked) own started (by kernel_rfl) Tryz.func5
    (ChangeSpec.witness6 (enc := enc) (C := Tryz.checked) false ⟨#[], #[.agg #[.int .i64 0, .int .i64 0, .int .i64 0, .int .i64 0, .int .i64 0], .agg #[.int .i64 0, .int .i64 0, .int .i64 0, .int .i64 0]], []⟩ 8 (by kernel_rfl) (by kernel_rfl) (by kernel_rfl) (by kernel_rfl)) ?_
  intro W base args ds gs before hval0 hW hcnd _
  have hval : ∀ (j : Nat) t v, Tryz.f5.params[j]? = some t → args[j]? = some v → Value.okWide Tryz.prog W .any base t v := hval0
  have hW' := hW
  obtain ⟨p, q, hA0, hV, rfl, hfz, hnd⟩ := hW
  have hA : DataW.TrodAll enc Tryz.prog W 0 (fun _ => true) true Tryz.f5.params.toList args.toList ds p := hA0
  rw [Tryz.params5] at hA hval
  obtain ⟨v0, vs0, d0, ds0, p0, q0, hargs, rfl, rfl, h0, r0⟩ := trodAll_cons hA
  obtain ⟨v1, vs1, d1, ds1, p1, q1, rfl, rfl, rfl, h1, r1⟩ := trodAll_cons r0
  obtain ⟨rfl, rfl, rfl⟩ := trodAll_nil r1
  obtain rfl : args = #[v0, v1] := by cases args; simp_all
  obtain ⟨rfl, rfl⟩ := trodVars_none hV
  obtain ⟨ps0, rfl, k0, w0⟩ := openS (n := 8) (ks := Ask.kinds) (by kernel_rfl) (by kernel_rfl) (by kernel_rfl) (hval 0 30 v0 rfl rfl) h0
  obtain ⟨a0, rfl⟩ := Ask.dec k0
  obtain ⟨ps1, rfl, k1, w1⟩ := openS (n := 8) (ks := Msg.kinds) (by kernel_rfl) (by kernel_rfl) (by kernel_rfl) (hval 1 32 v1 rfl rfl) h1
  obtain ⟨a1, rfl⟩ := Msg.dec k1
  refine (_root_.Go.Proofs.YtjgmkpidiaojkaaGreat.h5.run W (fun _ => undef) W [.one (.agg (a0.enc.map .pl)), .one (.agg (a1.enc.map .pl))] [] #[.agg (a0.enc.map PC.val).toArray, .agg (a1.enc.map PC.val).toArray] _ rfl trivial (Rep.empty _ W) ⟨relS _, relS _, trivial⟩).mono fun e W' ⟨v, ρ', he, hv, _, hE⟩ => ?_
  subst he
  have hv : v = .bool true := hv
  subst hv
  exact ⟨_, rfl, law_post hW' rfl hE.below (by kernel_rfl) (by kernel_rfl) (tb := 4) (by kernel_rfl) (by kernel_rfl) rfl rfl rfl⟩
theorem over : Rows.coreNoneRow.holds Tryz.pinned (OpenSpec.ofChange Rows.coreNoneSpec) :=
  OpenClaim.holds_of_wide 5 Tryz.f5 rfl rfl rfl rfl rfl rfl rfl ⟨rfl, rfl, rfl, rfl, rfl⟩ rfl rfl rfl rfl rfl (by kernel_rfl) Tryz.func5 (by kernel_rfl)
    (of_decide_eq_true (by kernel_rfl)) (by unfold Func.isWrapper; first | (rw [if_pos (by decide +kernel)]; kernel_rfl) | (rw [if_neg (by decide +kernel)]; exact ⟨rfl, rfl⟩))
    (fun os started H enc _ => lifted os started H enc)
theorem proved : Rows.CoreNoneSaid := over
#print axioms proved
end Go.Proofs.YtjgmkpidiaojkaaGreat.coreNone
