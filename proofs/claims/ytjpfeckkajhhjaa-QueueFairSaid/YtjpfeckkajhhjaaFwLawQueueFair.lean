/- PROVED: the law 'QueueFair', run from whatever input of its types, returns true and leaves the input as it was. Conditions: none. -/
import Derived.Test.YtjpfeckkajhhjaaRows
import Derived.Test.YtjpfeckkajhhjaaFwQueP
import Derived.Test.YtjpfeckkajhhjaaFwTys
import Derived.WalkKit
import Derived.ProofKit
import Derived.OpenShut
namespace Go.Proofs.Ytjpfeckkajhhjaa.queueFair
open Go.ChangeShapes Go.WideShapes Go.ChangeAt Go.RowKit Lw
set_option linter.unusedVariables false
theorem own : ownKnob Try.prog.godebug = none := by kernel_rfl
set_option maxRecDepth 100000 in
theorem lifted (os : Os) (started : os.Started) (H : Type) (enc : TypeId × Value → H) :
    ReturnsInHanded {} Try.checked os 6 .any (Rows.queueFairSpec.pre6 enc Try.prog Try.f6 Rows.queueFairRow.domain false) (Rows.queueFairSpec.post enc Try.prog Try.f6 false true false false) := by
  refine returnsInHanded_of_change (C := Try.checked) own started (by kernel_rfl) Try.func6
    (ChangeSpec.witness6 (enc := enc) (C := Try.checked) false ⟨#[], #[.slice none 0 0, .slice none 0 0, .agg #[.int .i64 0, .int .i64 0, .int .i64 0, .int .i64 0, .int .i64 0], .slice none 0 0], []⟩ 8 (by kernel_rfl) (by kernel_rfl) (by kernel_rfl) (by kernel_rfl)) ?_
  intro W base args ds gs before hval0 hW hcnd _
  have hval : ∀ (j : Nat) t v, Try.f6.params[j]? = some t → args[j]? = some v → Value.okWide Try.prog W .any base t v := hval0
  have hW' := hW
  obtain ⟨p, q, hA0, hV, rfl, hfz, hnd⟩ := hW
  have hA : DataW.TrodAll enc Try.prog W 0 (fun _ => true) true Try.f6.params.toList args.toList ds p := hA0
  rw [Try.params6] at hA hval
  obtain ⟨v0, vs0, d0, ds0, p0, q0, hargs, rfl, rfl, h0, r0⟩ := trodAll_cons hA
  obtain ⟨v1, vs1, d1, ds1, p1, q1, rfl, rfl, rfl, h1, r1⟩ := trodAll_cons r0
  obtain ⟨v2, vs2, d2, ds2, p2, q2, rfl, rfl, rfl, h2, r2⟩ := trodAll_cons r1
  obtain ⟨v3, vs3, d3, ds3, p3, q3, rfl, rfl, rfl, h3, r3⟩ := trodAll_cons r2
  obtain ⟨rfl, rfl, rfl⟩ := trodAll_nil r3
  obtain rfl : args = #[v0, v1, v2, v3] := by cases args; simp_all
  obtain ⟨rfl, rfl⟩ := trodVars_none hV
  obtain ⟨a0, s0, w0, l0⟩ := openL (eid := eid) (n := 8) (ks := Ask.kinds) (e := 43) .ask (by kernel_rfl) (by kernel_rfl) (by kernel_rfl) (by kernel_rfl) (fun ps h => Ask.dec h) (hval 0 41 v0 rfl rfl) h0 (envOf (fun _ => undef) [])
  obtain ⟨a1, s1, w1, l1⟩ := openL (eid := eid) (n := 8) (ks := Ask.kinds) (e := 43) .ask (by kernel_rfl) (by kernel_rfl) (by kernel_rfl) (by kernel_rfl) (fun ps h => Ask.dec h) (hval 1 41 v1 rfl rfl) h1 (envOf (fun _ => undef) [])
  obtain ⟨ps2, rfl, k2, w2⟩ := openS (n := 8) (ks := Ask.kinds) (by kernel_rfl) (by kernel_rfl) (by kernel_rfl) (hval 2 43 v2 rfl rfl) h2
  obtain ⟨a2, rfl⟩ := Ask.dec k2
  obtain ⟨a3, s3, w3, l3⟩ := openL (eid := eid) (n := 8) (ks := [.int .i64]) (e := 3) .int (by kernel_rfl) (by kernel_rfl) (by kernel_rfl) (by kernel_rfl) (fun ps h => by obtain ⟨n, r, rfl, h⟩ := open_i h; cases r with | nil => exact ⟨n, rfl⟩ | cons p q => exact absurd (List.cons.inj h).2 (kinds_cons _ _)) (hval 3 44 v3 rfl rfl) h3 (envOf (fun _ => undef) [])
  refine (_root_.Go.Proofs.Ytjpfeckkajhhjaa.h6.run W (fun _ => undef) W [.one (.c (.ros .ask a0)), .one (.c (.ros .ask a1)), .one (.agg (a2.enc.map .pl)), .one (.c (.ros .int a3))] [] #[v0, v1, .agg (a2.enc.map PC.val).toArray, v3] _ rfl ⟨l0,l1,l3⟩ (Rep.empty _ W) ⟨s0, s1, relS _, s3, trivial⟩).mono fun e W' ⟨v, ρ', he, hv, _, hE⟩ => ?_
  subst he
  have hv : v = .bool true := hv
  subst hv
  exact ⟨_, rfl, law_post hW' rfl hE.below (by kernel_rfl) (by kernel_rfl) (tb := 4) (by kernel_rfl) (by kernel_rfl) rfl rfl rfl⟩
theorem over : Rows.queueFairRow.holds Try.pinned (OpenSpec.ofChange Rows.queueFairSpec) :=
  OpenClaim.holds_of_wide 6 Try.f6 rfl rfl rfl rfl rfl rfl rfl ⟨rfl, rfl, rfl, rfl, rfl⟩ rfl rfl rfl rfl rfl (by kernel_rfl) Try.func6 (by kernel_rfl)
    (of_decide_eq_true (by kernel_rfl)) (by unfold Func.isWrapper; first | (rw [if_pos (by decide +kernel)]; kernel_rfl) | (rw [if_neg (by decide +kernel)]; exact ⟨rfl, rfl⟩))
    (fun os started H enc _ => lifted os started H enc)
theorem proved : Rows.QueueFairSaid := over
#print axioms proved
end Go.Proofs.Ytjpfeckkajhhjaa.queueFair
