/- Regions in their written order, and code: what the abstract machine comes to, the machine comes to. -/
import Derived.Test.YtijcloeapcapiaaFw14
import Derived.Deep.LoopGhost
import Derived.Laws.Cover3
set_option linter.unusedVariables false
set_option linter.unusedSimpArgs false
namespace Lw
open Go

/-! ### 1. States -/
structure Sta (X : Cx) (w0 : World) (ρ0 : Nat → Value) (M0 : Mem) (F : List AV) (M : Mem) (a : Act) (w : World) (ρ : Nat → Value) : Prop where
  rf : RelF X (envOf ρ M) F a.tmps.toList
  rep : Rep X ρ M w
  df : a.defers = []
  ext : Ext w0 ρ0 M0 w ρ M

theorem Sta.step {X : Cx} {w0 w w' : World} {ρ0 ρ ρ' : Nat → Value} {M0 M N : Mem} {F : List AV} {a : Act} {x : AV} {v : Value} (h : Sta X w0 ρ0 M0 F M a w ρ) (hv : RelA X (envOf ρ' N) x v) (hR : Rep X ρ' N w') (hE : Ext w ρ M w' ρ' N) (d : Option Tmp) :
    Sta X w0 ρ0 M0 (putF F d x) N (a.put d v) w' ρ' :=
  ⟨putF_rel (h.rf.to hE.keep) hv d, hR, by rw [put_defers]; exact h.df, h.ext.trans hE⟩

theorem BT.then_ev {α : Type} {k : α → Prop} : ∀ {t : BT α}, t.then k → k t.ev
  | .leaf r, h => h
  | .br c a b, h => by
    cases c
    · exact BT.then_ev (t := b) h
    · exact BT.then_ev (t := a) h

theorem lenW_nil {X : Cx} {ρ : Nat → Value} {M : Mem} {w : World} {x : AV} {n : Nat} {v : Value} (hR : Rep X ρ M w) (h : lenW M x = some n) (hv : RelA X (envOf ρ M) x v) :
    ∃ ad c, v = .slice ad n c ∧ (ad = none → n = 0) := by
  unfold lenW at h
  split at h
  · cases h
    obtain ⟨ad, rfl⟩ := (hv : ∃ a, v = .slice a 0 0)
    exact ⟨ad, 0, rfl, fun _ => rfl⟩
  · rename_i b
    split at h
    · rename_i u xs hb
      cases h
      simp only [RelA, RelV1, RelC, env_at_row hb] at hv
      obtain ⟨rfl, _⟩ := hv
      rcases hR.blk b _ (of_at hb (by simp)) with ⟨rfl, ad, hu⟩ | ⟨g, cap, cur, hu, _, _, hle, _⟩
      · exact ⟨ad, 0, hu, fun _ => rfl⟩
      · exact ⟨_, _, hu, fun e => by cases e⟩
    · cases h
  · rename_i u xs
    cases h
    obtain ⟨ad, c, hyv, hle, hc⟩ := (hv : ∃ a c, v = .slice a xs.length c ∧ _)
    refine ⟨ad, c, hyv, fun e => ?_⟩
    cases xs with
    | nil => rfl
    | cons y r =>
      obtain ⟨g, o, he, _⟩ := hc 0 y rfl
      rw [e] at he; cases he
  · cases h

theorem stepOp_sound {P : Program} {W0 : World} {eid : RTy → TypeId} {Γ : Gam} {τ : Tys} (hT : Agree ⟨P, W0, eid⟩ τ) (hΓ : GamOk P eid Γ) {w0 : World} {ρ0 : Nat → Value} {M0 : Mem} {o : Oper} {F : List AV} {M : Mem} {a : Act} {w : World} {ρ : Nat → Value}
    {k : AV → Mem → Prop} (h : stepOp Γ τ o F M k) (hS : Sta ⟨P, W0, eid⟩ w0 ρ0 M0 F M a w ρ) {next : Act → World → Prop} {Q : Exit → Act → World → Prop}
    (hn : ∀ x N v w' ρ', k x N → Sta ⟨P, W0, eid⟩ w0 ρ0 M0 (putF F o.dst x) N (a.put o.dst v) w' ρ' → next (a.put o.dst v) w') : o.wp P a w next Q := by
  unfold stepOp at h
  split at h
  · rename_i eq n hnc
    unfold nilCmp at hnc
    split at hnc
    · rename_i op t y u ho
      split at hnc
      · rename_i ti m hti hlen
        split at hnc
        · rename_i rt hel
          obtain ⟨ad, c, hv, hnil⟩ := lenW_nil hS.rep hlen (oe_rel hS.rf y)
          obtain ⟨hd, _⟩ := elem_of (hT t ti hti) hel
          have hcn : a.eval (.const (.slice none 0 0)) = .slice none 0 0 := rfl
          have hbool : ∀ b : Bool, RelA ⟨P, W0, eid⟩ (envOf ρ M) (boolAV b) (.bool b) := fun b => rfl
          have hn0 : ad.isNone = true → m = 0 := fun e => hnil (by cases ad <;> simp_all)
          split at hnc
          · cases hnc
            have hk := h ad.isNone hn0
            have hrun : (execOp a.eval o).run P w = .ok (.value (.bool ad.isNone)) w := by
              simp only [execOp, ho, hcn, hv, Sem.run_bind]
              simp only [eqGuard, binOp]
              simp [run_equal_slice_nil w t (eid rt) ad n c hd]
            unfold Oper.wp
            rw [hrun, Oper.upon_value]
            refine hn _ _ _ w ρ hk (hS.step ?_ hS.rep (Ext.refl w ρ M) o.dst)
            have : (ad.isNone == true) = ad.isNone := by cases ad.isNone <;> rfl
            rw [this]; exact hbool _
          · cases hnc
            have hk := h ad.isNone hn0
            have hrun : (execOp a.eval o).run P w = .ok (.value (.bool (!ad.isNone))) w := by
              simp only [execOp, ho, hcn, hv, Sem.run_bind]
              simp only [eqGuard]
              simp [run_neq_slice_nil w t (eid rt) ad n c hd]
            unfold Oper.wp
            rw [hrun, Oper.upon_value]
            refine hn _ _ _ w ρ hk (hS.step ?_ hS.rep (Ext.refl w ρ M) o.dst)
            have : (ad.isNone == false) = !ad.isNone := by cases ad.isNone <;> rfl
            rw [this]; exact hbool _
          · cases hnc
        · cases hnc
      · cases hnc
    · cases hnc
  · split at h
    · rename_i t ht
      have h1 := BT.then_ev h
      rw [andP_iff] at h1
      exact aopT_sound hT hΓ ht h1.1 hS.rf hS.rep next Q fun v w' ρ' hv hR hE => hn _ _ v w' ρ' h1.2 (hS.step hv hR hE o.dst)
    · exact h.elim

/-! ### 2. Guards -/
theorem guardOf_rel {X : Cx} {E : Env} {all : List Oper} {ops : Array Oper} (hall : ops.toList = all) {F : List AV} {a : Act} {j : Nat} {g : Option Bool} (h : guardOf all F j = some g) (hF : RelF X E F a.tmps.toList) : yielded ops a.tmps j = g := by
  unfold guardOf at h
  unfold yielded
  split at h
  · rename_i o ho
    have ho' : ops[j]? = some o := by rw [← Array.getElem?_toList, hall]; exact ho
    rw [ho', Option.bind_some]
    split at h
    · rename_i d hd
      rw [hd, Option.bind_some]
      split at h
      · rename_i b hb
        cases h
        obtain ⟨v, hv, hr⟩ := hF.get d _ hb
        rw [Array.getElem?_toList] at hv
        rw [hv]
        have : v = .bool b := hr
        subst this; rfl
      · rename_i hb
        cases h
        obtain ⟨v, hv, hr⟩ := hF.get d _ hb
        rw [Array.getElem?_toList] at hv
        rw [hv]
        have : v = undef := hr
        subst this; rfl
      · cases h
    · cases h
  · cases h

theorem sel2_iff {b want : Bool} {p q : Prop} (h : sel2 b want p q) : (b = want ∧ p) ∨ (b ≠ want ∧ q) := by
  cases want <;> cases b
  · exact .inl ⟨rfl, h⟩
  · exact .inr ⟨by simp, h⟩
  · exact .inr ⟨by simp, h⟩
  · exact .inl ⟨rfl, h⟩

theorem known_eq {all : List Oper} {F : List AV} {j : Nat} {b : Bool} (h : guardOf all F j = some (some b)) : known all F j b = F := by
  unfold guardOf at h
  unfold known
  cases ho : all[j]? with
  | none => rfl
  | some o =>
    rw [ho] at h
    cases hd : o.dst with
    | none => simp only [hd]
    | some d =>
      simp only [hd] at h ⊢
      split at h
      · rename_i b' hb
        cases h
        apply List.ext_getElem?
        intro k
        by_cases hk : d = k
        · subst hk
          rw [List.getElem?_set_self (List.getElem?_eq_some_iff.1 hb).1, hb]
        · rw [List.getElem?_set_ne hk]
      · cases h
      · cases h

theorem runOps_sound {P : Program} {W0 : World} {eid : RTy → TypeId} {Γ : Gam} {τ : Tys} (hT : Agree ⟨P, W0, eid⟩ τ) (hΓ : GamOk P eid Γ) {w0 : World} {ρ0 : Nat → Value} {M0 : Mem} {ops : Array Oper} {K : List AV → Mem → Prop} {Q : Exit → Act → World → Prop} {m : Nat} {rest : List Oper} :
    ∀ (l : List Oper) (k : Nat) (F : List AV) (M : Mem) (a : Act) (w : World) (ρ : Nat → Value), ops.toList.drop k = l ++ rest → 
      (∀ F M a w ρ, K F M → Sta ⟨P, W0, eid⟩ w0 ρ0 M0 F M a w ρ → wpOps P ops Q (List.range' (k + l.length) m) a w) →
      runOps Γ τ ops.toList l F M K → Sta ⟨P, W0, eid⟩ w0 ρ0 M0 F M a w ρ → wpOps P ops Q (List.range' k (l.length + m)) a w := by
  intro l
  induction l with
  | nil =>
    intro k F M a w ρ hk hK h hS
    have := hK F M a w ρ h hS
    simpa using this
  | cons o l ih =>
    intro k F M a w ρ hk hK h hS
    have hlt : k < ops.toList.length := by
      have := congrArg List.length hk
      simp at this; simp; omega
    have hget : ops[k]? = some o := by
      rw [← Array.getElem?_toList, List.getElem?_eq_getElem hlt]
      rw [List.drop_eq_getElem_cons hlt, List.cons_append] at hk
      injection hk with h1 h2
      rw [h1]
    have hdrop : ops.toList.drop (k + 1) = l ++ rest := by
      rw [List.drop_eq_getElem_cons hlt, List.cons_append] at hk
      injection hk
    rw [show (o :: l).length + m = (l.length + m) + 1 by simp; omega, List.range'_succ, wpOps_cons]
    unfold wpOp
    rw [hget]
    simp only
    unfold runOps at h
    have hK' : ∀ F M a w ρ, K F M → Sta ⟨P, W0, eid⟩ w0 ρ0 M0 F M a w ρ → wpOps P ops Q (List.range' (k + 1 + l.length) m) a w := fun F M a w ρ h hS => by
      have := hK F M a w ρ h hS
      rwa [show k + (o :: l).length = k + 1 + l.length by simp; omega] at this
    have go : ∀ {x N v w' ρ'}, runOps Γ τ ops.toList l (putF F o.dst x) N K → Sta ⟨P, W0, eid⟩ w0 ρ0 M0 (putF F o.dst x) N (a.put o.dst v) w' ρ' → wpOps P ops Q (List.range' (k + 1) (l.length + m)) (a.put o.dst v) w' :=
      fun {x N v w' ρ'} hr hs => ih (k + 1) _ _ _ w' ρ' hdrop hK' hr hs
    have skip : runOps Γ τ ops.toList l (putF F o.dst .undef) M K → wpOps P ops Q (List.range' (k + 1) (l.length + m)) (a.put o.dst undef) w :=
      fun hr => go hr (hS.step (x := .undef) (v := undef) rfl hS.rep (Ext.refl w ρ M) o.dst)
    split at h
    · rename_i hg
      rw [if_pos (by simp [Region.wanted, hg])]
      exact .inl (stepOp_sound hT hΓ h hS fun x N v w' ρ' hr hs => go hr hs)
    · rename_i j want hg
      split at h
      · rename_i b hgo
        have hy := guardOf_rel rfl hgo hS.rf
        rcases sel2_iff h with ⟨hb, h⟩ | ⟨hb, h⟩
        · rw [← hb, known_eq hgo] at h
          rw [if_pos (by simp [Region.wanted, hg, hy, hb])]
          exact .inl (stepOp_sound hT hΓ h hS fun x N v w' ρ' hr hs => go hr hs)
        · rw [show (!want) = b by cases b <;> cases want <;> simp_all, known_eq hgo] at h
          rw [if_neg (by simp [Region.wanted, hg, hy, hb])]
          exact skip h
      · rename_i hgo
        have hy := guardOf_rel rfl hgo hS.rf
        rw [if_neg (by simp [Region.wanted, hg, hy])]
        exact skip h
      · exact h.elim

/-! ### 2b. Tests of several parts -/
theorem bif_some {α : Type} {c : Bool} {x : Option α} {r : α} (h : (bif c then x else none) = some r) : x = some r := by
  cases c
  · cases h
  · exact h
theorem orOf_mem1 {M : Mem} {v : Option AV} {r : OR} (h : orOf M v = some r) : r.mem = M := by
  unfold orOf at h
  split at h
  · cases h; rfl
  · cases h
theorem aop_pure {τ : Tys} {o : Oper} {F : List AV} {M : Mem} {r : OR} (hp : pureOp o.op = true) (h : aop τ o F M = some r) : r.mem = M := by
  unfold aop at h
  cases ho : o.op <;> rw [ho] at hp h <;> (try (exact Bool.noConfusion (show false = true from hp))) <;> simp only at h
  all_goals (repeat' (split at h))
  all_goals first
    | (cases h; rfl)
    | (cases h; done)
    | exact orOf_mem1 h
    | (have h := bif_some h; first | (cases h; rfl) | exact orOf_mem1 h)
theorem aop_len {τ : Tys} {o : Oper} {c : Go.Call} {F : List AV} {M : Mem} {r : OR} (ho : o.op = .call c) (hc : c.callee = .builtin .len) (h : aop τ o F M = some r) : r.mem = M := by
  unfold aop at h
  rw [ho] at h
  simp only [hc] at h
  unfold abuiltin at h
  split at h
  all_goals (repeat' (split at h))
  all_goals first
    | (cases h; rfl)
    | (cases h; done)
    | (have h := bif_some h; cases h; rfl)
    | contradiction
theorem isNilB_eq {M : Mem} (h : isNilB M = true) : M = [] := by
  cases M
  · rfl
  · cases h
theorem pureT_spec {Γ : Gam} {τ : Tys} {o : Oper} {F : List AV} {M : Mem} {p : Option Prop} {v : AV} (h : pureT Γ τ o F M = some (p, v)) : ∃ t, aopT Γ τ o F M = some t ∧ t.ev = ⟨p, v, M⟩ := by
  unfold pureT at h
  split at h
  · rename_i c ho
    split at h
    · rename_i f hf
      split at h
      · rename_i g xs hfa
        split at h
        · rename_i S hS
          have hb : (allIn (reach M 300 (avidsL xs) []) (avidsL xs) && (closedIn M (reach M 300 (avidsL xs) []) (reach M 300 (avidsL xs) []) && nodupN (reach M 300 (avidsL xs) []))) = true := by
            cases hb : (allIn (reach M 300 (avidsL xs) []) (avidsL xs) && (closedIn M (reach M 300 (avidsL xs) []) (reach M 300 (avidsL xs) []) && nodupN (reach M 300 (avidsL xs) []))) with
            | true => rfl
            | false => rw [hb] at h; cases h
          have h := bif_some h
          split at h
          · rename_i r hr
            split at h
            · rename_i hu
              have hn := isNilB_eq (show isNilB r.new = true by
                cases hn : isNilB r.new with
                | true => rfl
                | false => rw [hn] at h; cases h)
              have h := bif_some h
              cases h
              refine ⟨.leaf (outOf M (reach M 300 (avidsL xs) []) r), ?_, ?_⟩
              · unfold aopT
                rw [ho]
                simp only [hf, hfa]
                unfold acall
                rw [hS]
                simp only
                rw [hb]
                simp only [cond_true, hr, BT.map]
              · show outOf M _ r = _
                unfold outOf
                rw [hu]
                simp only [hn, List.map_nil, List.append_nil]
            · cases h
          · cases h
        · cases h
      · cases h
    · rename_i hc
      split at h
      · rename_i r hr
        cases h
        refine ⟨.leaf r, ?_, ?_⟩
        · unfold aopT
          rw [ho]
          simp only [hc, hr, Option.map_some]
        · have := aop_len ho hc hr
          subst this
          cases r; rfl
      · cases h
    · cases h
  · rename_i hnc
    have h1 := bif_some h
    have hp : pureOp o.op = true := by
      cases hb : pureOp o.op with
      | true => rfl
      | false => rw [hb] at h; cases h
    split at h1
    · rename_i r hr
      cases h1
      have hm := aop_pure hp hr
      cases ho : o.op
      case pick c x y =>
        unfold aop at hr
        rw [ho] at hr
        simp only at hr
        split at hr
        · rename_i b hb
          split at hr
          · rename_i x' y' hx hy
            cases hr
            refine ⟨.br b (.leaf ⟨none, oe F x, M⟩) (.leaf ⟨none, oe F y, M⟩), by unfold aopT; rw [ho]; simp only [hb], ?_⟩
            cases b
            · show (⟨none, oe F y, M⟩ : OR) = _
              rw [hy]; rfl
            · show (⟨none, oe F x, M⟩ : OR) = _
              rw [hx]; rfl
          · cases hr
        · cases hr
      all_goals first
        | (exact absurd ho (hnc _))
        | (refine ⟨.leaf r, by unfold aopT; rw [ho]; simp only [hr, Option.map_some], ?_⟩
           subst hm
           cases r; rfl)
    · cases h1
theorem list_set_get {α : Type} {xs : List α} {i : Nat} {x : α} (h : xs[i]? = some x) : xs.set i x = xs := by
  apply List.ext_getElem?
  intro k
  by_cases hk : i = k
  · subst hk
    have hlt := (List.getElem?_eq_some_iff.1 h).1
    rw [List.getElem?_set_self hlt, h]
  · rw [List.getElem?_set_ne hk]

theorem RelF.reset {X : Cx} {E : Env} {F : List AV} {vs : List Value} (h : RelF X E F vs) {s : Nat} {x : AV} (hx : ∀ v, vs[s]? = some v → RelA X E x v) : RelF X E (F.set s x) vs := by
  cases hv : vs[s]? with
  | none =>
    have : F.length ≤ s := by rw [← h.length]; simpa using hv
    rw [List.set_eq_of_length_le this]; exact h
  | some v =>
    have := h.set (hx v hv) s
    rwa [list_set_get hv] at this

theorem sameG_eq {j : Nat} {w : Bool} {o : Oper} (h : sameG j w o = true) : o.guard = some (j, w) := by
  unfold sameG at h
  split at h
  · rename_i j' w' hg
    rw [Bool.and_eq_true] at h
    have := Nat.eq_of_beq_eq_true h.1
    have h2 : w = w' := by simpa using h.2
    subst this; subst h2; exact hg
  · cases h
theorem guardIs_eq {all : List Oper} {F : List AV} {j : Nat} {w : Bool} (h : guardIs all F j w = true) : guardOf all F j = some (some w) := by
  unfold guardIs at h
  split at h
  · rename_i g hg
    have : g = w := by simpa using h
    subst this; exact hg
  · cases h
theorem RelF.junkAll {X : Cx} {E : Env} {vs : List Value} : ∀ (l : List Oper) {F : List AV}, RelF X E F vs → RelF X E (Lw.junkAll l F) vs
  | [], F, h => h
  | o :: r, F, h => by
    unfold Lw.junkAll
    refine RelF.junkAll r ?_
    cases hd : o.dst with
    | none => exact h
    | some d => exact h.reset fun v _ => trivial
theorem junk_len : ∀ (l : List Oper) (F : List AV), (junkAll l F).length = F.length
  | [], F => rfl
  | o :: r, F => by
    unfold junkAll
    rw [junk_len r]
    cases o.dst <;> simp [putF]
theorem junk_comm (d : Tmp) (v : AV) : ∀ (l : List Oper) (F : List AV), (∃ o ∈ l, o.dst = some d) → junkAll l (F.set d v) = junkAll l F
  | [], F, h => by obtain ⟨o, ho, _⟩ := h; cases ho
  | o :: r, F, h => by
    unfold junkAll
    by_cases ho : o.dst = some d
    · rw [ho]
      show junkAll r ((F.set d v).set d .junk) = junkAll r (F.set d .junk)
      rw [List.set_set]
    · have hr : ∃ o ∈ r, o.dst = some d := by
        obtain ⟨x, hx, hd⟩ := h
        rcases List.mem_cons.1 hx with rfl | hx
        · exact absurd hd ho
        · exact ⟨x, hx, hd⟩
      cases hd : o.dst with
      | none => exact junk_comm d v r F hr
      | some e =>
        have hne : d ≠ e := fun h => ho (by rw [hd, h])
        show junkAll r ((F.set d v).set e .junk) = junkAll r (F.set e .junk)
        rw [List.set_comm _ _ hne]
        exact junk_comm d v r _ hr
theorem junk_put (d : Option Tmp) (v : AV) (o : Oper) (ho : o.dst = d) (r : List Oper) (F : List AV) (l : List Oper) (hl : ∀ x ∈ o :: r, x ∈ l) : junkAll l (putF F d v) = junkAll l F := by
  cases d with
  | none => rfl
  | some d => exact junk_comm d v l F ⟨o, hl o (List.mem_cons_self ..), ho⟩
theorem runPure_junk {Γ : Gam} {τ : Tys} {all : List Oper} {j : Nat} {w : Bool} {M : Mem} {L : List Oper} : ∀ {l : List Oper} {F F1 : List AV} {q : Option Prop}, (∀ x ∈ l, x ∈ L) → runPure Γ τ all j w l F M = some (q, F1) → junkAll L F1 = junkAll L F
  | [], F, F1, q, _, h => by cases h; rfl
  | o :: r, F, F1, q, hl, h => by
    unfold runPure at h
    have h := bif_some h
    split at h
    · rename_i p v hp
      split at h
      · rename_i q' F' hr
        cases h
        rw [runPure_junk (fun x hx => hl x (List.mem_cons_of_mem _ hx)) hr]
        exact junk_put o.dst v o rfl r F L hl
      · cases h
    · cases h
theorem runUndef_junk {all : List Oper} {j : Nat} {w : Bool} {L : List Oper} : ∀ {l : List Oper} {F F1 : List AV}, (∀ x ∈ l, x ∈ L) → runUndef all j w l F = some F1 → junkAll L F1 = junkAll L F
  | [], F, F1, _, h => by cases h; rfl
  | o :: r, F, F1, hl, h => by
    unfold runUndef at h
    have h := bif_some h
    rw [runUndef_junk (fun x hx => hl x (List.mem_cons_of_mem _ hx)) h]
    exact junk_put o.dst .undef o rfl r F L hl
theorem andO_ok {p q : Option Prop} (h : preOk (andO p q)) : preOk p ∧ preOk q := by
  cases p <;> cases q <;> simp_all [andO, preOk]
theorem runUndef_sound {P : Program} {W0 : World} {eid : RTy → TypeId} {w0 : World} {ρ0 : Nat → Value} {M0 : Mem} {ops : Array Oper} {Q : Exit → Act → World → Prop} {m : Nat} {rest : List Oper} {j : Nat} {b : Bool} {M : Mem} {F1 : List AV} : ∀ (l : List Oper) (k : Nat) (F : List AV) (a : Act) (w : World) (ρ : Nat → Value), ops.toList.drop k = l ++ rest → runUndef ops.toList j b l F = some F1 →
      (∀ a w ρ, Sta ⟨P, W0, eid⟩ w0 ρ0 M0 F1 M a w ρ → wpOps P ops Q (List.range' (k + l.length) m) a w) →
      Sta ⟨P, W0, eid⟩ w0 ρ0 M0 F M a w ρ → wpOps P ops Q (List.range' k (l.length + m)) a w := by
  intro l
  induction l with
  | nil =>
    intro k F a w ρ hk h hK hS
    cases h
    have := hK a w ρ hS
    simpa using this
  | cons o l ih =>
    intro k F a w ρ hk h hK hS
    have hlt : k < ops.toList.length := by
      have := congrArg List.length hk
      simp at this; simp; omega
    have hget : ops[k]? = some o := by
      rw [← Array.getElem?_toList, List.getElem?_eq_getElem hlt]
      rw [List.drop_eq_getElem_cons hlt, List.cons_append] at hk
      injection hk with h1 h2
      rw [h1]
    have hdrop : ops.toList.drop (k + 1) = l ++ rest := by
      rw [List.drop_eq_getElem_cons hlt, List.cons_append] at hk
      injection hk
    rw [show (o :: l).length + m = (l.length + m) + 1 by simp; omega, List.range'_succ, wpOps_cons]
    unfold wpOp
    rw [hget]
    simp only
    unfold runUndef at h
    have hc : (sameG j b o && guardIs ops.toList F j (!b)) = true := by
      cases hc : (sameG j b o && guardIs ops.toList F j (!b)) with
      | true => rfl
      | false => rw [hc] at h; cases h
    have h := bif_some h
    rw [Bool.and_eq_true] at hc
    have hg := sameG_eq hc.1
    have hy := guardOf_rel rfl (guardIs_eq hc.2) hS.rf
    rw [if_neg (by simp [Region.wanted, hg, hy])]
    refine ih (k + 1) _ _ w ρ hdrop h (fun a w ρ hS => ?_) (hS.step (x := .undef) (v := undef) rfl hS.rep (Ext.refl w ρ M) o.dst)
    have := hK a w ρ hS
    rwa [show k + (o :: l).length = k + 1 + l.length by simp; omega] at this
section grp
variable {P : Program} {W0 : World} {eid : RTy → TypeId} {Γ : Gam} {τ : Tys} (hT : Agree ⟨P, W0, eid⟩ τ) (hΓ : GamOk P eid Γ) {w0 : World} {ρ0 : Nat → Value} {M0 : Mem} {ops : Array Oper} {Q : Exit → Act → World → Prop} {m : Nat} {rest : List Oper}
include hT hΓ
theorem runPure_sound {j : Nat} {b : Bool} {M : Mem} {F1 : List AV} : ∀ (l : List Oper) (k : Nat) (F : List AV) (a : Act) (w : World) (ρ : Nat → Value) (q : Option Prop), ops.toList.drop k = l ++ rest → runPure Γ τ ops.toList j b l F M = some (q, F1) → preOk q →
      (∀ a w ρ, Sta ⟨P, W0, eid⟩ w0 ρ0 M0 F1 M a w ρ → wpOps P ops Q (List.range' (k + l.length) m) a w) →
      Sta ⟨P, W0, eid⟩ w0 ρ0 M0 F M a w ρ → wpOps P ops Q (List.range' k (l.length + m)) a w := by
  intro l
  induction l with
  | nil =>
    intro k F a w ρ q hk h hq hK hS
    cases h
    have := hK a w ρ hS
    simpa using this
  | cons o l ih =>
    intro k F a w ρ q hk h hq hK hS
    have hlt : k < ops.toList.length := by
      have := congrArg List.length hk
      simp at this; simp; omega
    have hget : ops[k]? = some o := by
      rw [← Array.getElem?_toList, List.getElem?_eq_getElem hlt]
      rw [List.drop_eq_getElem_cons hlt, List.cons_append] at hk
      injection hk with h1 h2
      rw [h1]
    have hdrop : ops.toList.drop (k + 1) = l ++ rest := by
      rw [List.drop_eq_getElem_cons hlt, List.cons_append] at hk
      injection hk
    rw [show (o :: l).length + m = (l.length + m) + 1 by simp; omega, List.range'_succ, wpOps_cons]
    unfold wpOp
    rw [hget]
    simp only
    unfold runPure at h
    have hc : (sameG j b o && guardIs ops.toList F j b) = true := by
      cases hc : (sameG j b o && guardIs ops.toList F j b) with
      | true => rfl
      | false => rw [hc] at h; cases h
    have h := bif_some h
    rw [Bool.and_eq_true] at hc
    have hg := sameG_eq hc.1
    have hy := guardOf_rel rfl (guardIs_eq hc.2) hS.rf
    split at h
    · rename_i p v hp
      split at h
      · rename_i q' F' hr
        cases h
        obtain ⟨hq1, hq2⟩ := andO_ok hq
        obtain ⟨t, ht, hev⟩ := pureT_spec hp
        rw [if_pos (by simp [Region.wanted, hg, hy])]
        refine .inl (aopT_sound hT hΓ ht (by rw [hev]; exact hq1) hS.rf hS.rep _ _ fun u w' ρ' hv hR hE => ?_)
        rw [hev] at hv hR hE
        refine ih (k + 1) _ _ w' ρ' q' hdrop hr hq2 (fun a w ρ hS => ?_) (hS.step hv hR hE o.dst)
        have := hK a w ρ hS
        rwa [show k + (o :: l).length = k + 1 + l.length by simp; omega] at this
      · cases h
    · cases h
/-- The test itself. -/
theorem pickItem_sound {k : Nat} {p : Oper} {c x y : Operand} {d : Tmp} {M : Mem} {F G : List AV} {a : Act} {w : World} {ρ : Nat → Value} {g r : Bool} (hk : ops[k]? = some p) (ho : p.op = .pick c x y) (hd : p.dst = some d) (hg : p.guard = none)
    (hc : oe F c = .one (.c (.pl (.bool g)))) (hr : oe F (cond g x y) = .one (.c (.pl (.bool r)))) (hS : Sta ⟨P, W0, eid⟩ w0 ρ0 M0 F M a w ρ) (hG : Sta ⟨P, W0, eid⟩ w0 ρ0 M0 G M a w ρ) {next : List Nat}
    (hK : ∀ a w ρ, Sta ⟨P, W0, eid⟩ w0 ρ0 M0 (putF G (some d) (boolAV r)) M a w ρ → wpOps P ops Q next a w) : wpOps P ops Q (k :: next) a w := by
  rw [wpOps_cons]
  unfold wpOp
  rw [hk]
  simp only
  rw [if_pos (by simp [Region.wanted, hg])]
  have ht : aopT Γ τ p F M = some (.br g (.leaf ⟨none, oe F x, M⟩) (.leaf ⟨none, oe F y, M⟩)) := by
    unfold aopT
    rw [ho]
    simp only [hc]
  refine .inl (aopT_sound hT hΓ ht (by cases g <;> trivial) hS.rf hS.rep _ _ fun u w' ρ' hv hR hE => ?_)
  have hev : (BT.br g (.leaf ⟨none, oe F x, M⟩) (.leaf ⟨none, oe F y, M⟩) : BT OR).ev = ⟨none, boolAV r, M⟩ := by
    cases g
    · show (⟨none, oe F y, M⟩ : OR) = _
      rw [show oe F y = _ from hr]; rfl
    · show (⟨none, oe F x, M⟩ : OR) = _
      rw [show oe F x = _ from hr]; rfl
  rw [hev] at hv hR hE
  rw [hd]
  exact hK _ w' ρ' (hG.step hv hR hE (some d))
theorem runItems_sound {K : List AV → Mem → Prop} (hK : ∀ F M a w ρ, K F M → Sta ⟨P, W0, eid⟩ w0 ρ0 M0 F M a w ρ → Q .normal a w) : ∀ (r : List Item) (k : Nat) (F : List AV) (M : Mem) (a : Act) (w : World) (ρ : Nat → Value),
    ops.toList.drop k = r.flatMap (fun i => match i with | .one o => [o] | .grp _ _ pre p => pre ++ [p]) → runItems Γ τ ops.toList r F M K → Sta ⟨P, W0, eid⟩ w0 ρ0 M0 F M a w ρ → wpOps P ops Q (List.range' k (ops.size - k)) a w := by
  intro r
  induction r with
  | nil =>
    intro k F M a w ρ hk h hS
    have : ops.size - k = 0 := by
      have := congrArg List.length hk
      simpa using this
    rw [this]
    exact hK F M a w ρ h hS
  | cons i r ih =>
    intro k F M a w ρ hk h hS
    cases i with
    | one o =>
      simp only [List.flatMap_cons] at hk
      have hlen := congrArg List.length hk
      simp at hlen
      have hd : ops.toList.drop (k + 1) = r.flatMap (fun i => match i with | .one o => [o] | .grp _ _ pre p => pre ++ [p]) := by
        rw [← List.drop_drop, hk]; rfl
      have := runOps_sound (Q := Q) hT hΓ (m := ops.size - (k + 1)) [o] k F M a w ρ hk (fun F M a w ρ h hS => ih (k + 1) F M a w ρ hd h hS) h hS
      rwa [show [o].length + (ops.size - (k + 1)) = ops.size - k by simp; omega] at this
    | grp j b pre p =>
      simp only [List.flatMap_cons] at hk
      have hlen := congrArg List.length hk
      simp at hlen
      have hd : ops.toList.drop (k + (pre ++ [p]).length) = r.flatMap (fun i => match i with | .one o => [o] | .grp _ _ pre p => pre ++ [p]) := by
        rw [← List.drop_drop, hk, List.drop_left]
      have old (h : runOps Γ τ ops.toList (pre ++ [p]) F M fun F' M' => runItems Γ τ ops.toList r F' M' K) : wpOps P ops Q (List.range' k (ops.size - k)) a w := by
        have := runOps_sound (Q := Q) hT hΓ (m := ops.size - (k + (pre ++ [p]).length)) (pre ++ [p]) k F M a w ρ hk (fun F M a w ρ h hS => ih _ F M a w ρ hd h hS) h hS
        rwa [show (pre ++ [p]).length + (ops.size - (k + (pre ++ [p]).length)) = ops.size - k by simp; omega] at this
      unfold runItems at h
      split at h
      · rename_i g hgo
        split at h
        · rename_i q xx yy d hgr
          rw [andP_iff] at h
          obtain ⟨hpre, h⟩ := h
          unfold grpRes at hgr
          split at hgr
          · rename_i c x y d' ho hpd hpg
            have hct : isTmp (guardTmp ops.toList j) c = true := by
              cases hc : isTmp (guardTmp ops.toList j) c with
              | true => rfl
              | false => rw [hc] at hgr; cases hgr
            have hgr := bif_some hgr
            split at hgr
            · rename_i q1 F1 F0 hF1 hF0
              have hgg : (guardIs ops.toList F1 j b && guardIs ops.toList F0 j (!b)) = true := by
                cases hc : (guardIs ops.toList F1 j b && guardIs ops.toList F0 j (!b)) with
                | true => rfl
                | false => rw [hc] at hgr; cases hgr
              have hgr := bif_some hgr
              rw [Bool.and_eq_true] at hgg
              split at hgr
              · rename_i x1 y1 hx1 hy1
                cases hgr
                have hoe : ∀ {G : List AV} {z : Bool}, guardIs ops.toList G j z = true → oe G c = .one (.c (.pl (.bool z))) := by
                  intro G z hz
                  have hz := guardIs_eq hz
                  unfold isTmp at hct
                  split at hct
                  · rename_i t
                    split at hct
                    · rename_i u hu
                      have := Nat.eq_of_beq_eq_true hct
                      subst this
                      unfold guardTmp at hu
                      unfold guardOf at hz
                      split at hz
                      · rename_i o' ho'
                        rw [ho'] at hu
                        simp only at hu
                        rw [hu] at hz
                        simp only at hz
                        split at hz
                        · rename_i z' hz'
                          cases hz
                          show G.getD t .undef = _
                          rw [List.getD_eq_getElem?_getD, hz']; rfl
                        · cases hz
                        · cases hz
                      · cases hz
                    · cases hct
                  · cases hct
                have hkp : ops[k + pre.length]? = some p := by
                  have hh : (ops.toList.drop k)[pre.length]? = some p := by
                    rw [hk, List.append_assoc, List.getElem?_append_right (Nat.le_refl _)]
                    simp
                  rw [List.getElem?_drop] at hh
                  rw [← Array.getElem?_toList]; exact hh
                have hjunk : ∀ {G : List AV} {a : Act} {w : World} {ρ : Nat → Value}, junkAll pre G = junkAll pre F → Sta ⟨P, W0, eid⟩ w0 ρ0 M0 G M a w ρ → Sta ⟨P, W0, eid⟩ w0 ρ0 M0 (junkAll pre F) M a w ρ := fun he hs => ⟨he ▸ hs.rf.junkAll pre, hs.rep, hs.df, hs.ext⟩
                have hrange : List.range' (k + pre.length) (ops.size - (k + pre.length)) = (k + pre.length) :: List.range' (k + (pre ++ [p]).length) (ops.size - (k + (pre ++ [p]).length)) := by
                  rw [show ops.size - (k + pre.length) = (ops.size - (k + (pre ++ [p]).length)) + 1 by simp; omega, List.range'_succ]
                  simp; omega
                have hsz : pre.length + (ops.size - (k + pre.length)) = ops.size - k := by omega
                have hk2 : ops.toList.drop k = pre ++ ([p] ++ r.flatMap (fun i => match i with | .one o => [o] | .grp _ _ pre p => pre ++ [p])) := by
                  rw [hk, List.append_assoc]
                by_cases hb : g = b
                · subst hb
                  rw [known_eq hgo] at hF1
                  have hq : preOk q := by
                    cases q with
                    | none => trivial
                    | some q => exact hpre rfl
                  have hj := runPure_junk (L := pre) (fun x hx => hx) hF1
                  have := runPure_sound (Q := Q) hT hΓ (m := ops.size - (k + pre.length)) pre k F a w ρ q hk2 hF1 hq (fun a w ρ hs => by
                    rw [hrange]
                    refine pickItem_sound hT hΓ hkp ho hpd hpg (hoe hgg.1) hx1 hs (hjunk hj hs) (fun a w ρ hs' => ih _ _ M a w ρ hd ?_ hs')
                    have e : (cond g (cond g xx yy) (cond g yy xx)) = xx := by cases g <;> rfl
                    rw [e] at h
                    exact h) hS
                  rwa [hsz] at this
                · have hnb : (!b) = g := by cases b <;> cases g <;> simp_all
                  rw [hnb] at hF0 hgg
                  rw [known_eq hgo] at hF0
                  have hj := runUndef_junk (L := pre) (fun x hx => hx) hF0
                  have := runUndef_sound (Q := Q) (M := M) (m := ops.size - (k + pre.length)) pre k F a w ρ hk2 hF0 (fun a w ρ hs => by
                    rw [hrange]
                    refine pickItem_sound hT hΓ (r := yy) hkp ho hpd hpg (hoe hgg.2) ?_ hs (hjunk hj hs) (fun a w ρ hs' => ih _ _ M a w ρ hd ?_ hs')
                    · rw [← hnb]
                      cases b <;> exact hy1
                    · have e : (cond b (cond g xx yy) (cond g yy xx)) = yy := by rw [← hnb]; cases b <;> rfl
                      rw [e] at h
                      exact h) hS
                  rwa [hsz] at this
              · cases hgr
            · cases hgr
          · cases hgr
        · exact old h
      · exact old h
end grp
theorem grpTake_eq (j : Nat) (w : Bool) : ∀ (l : List Oper), (grpTake j w l).1 ++ (grpTake j w l).2 = l
  | [] => rfl
  | o :: r => by
    unfold grpTake
    cases sameG j w o
    · rfl
    · have := grpTake_eq j w r
      simp only [cond_true, List.cons_append, this]
theorem itemsF_eq : ∀ (n : Nat) (l : List Oper), (itemsF n l).flatMap (fun i => match i with | .one o => [o] | .grp _ _ pre p => pre ++ [p]) = l := by
  have hone : ∀ l : List Oper, (l.map Item.one).flatMap (fun i => match i with | .one o => [o] | .grp _ _ pre p => pre ++ [p]) = l := fun l => by
    induction l with
    | nil => rfl
    | cons o r ih => simp only [List.map_cons, List.flatMap_cons, ih]; rfl
  intro n
  induction n with
  | zero => exact hone
  | succ n ih =>
    intro l
    cases l with
    | nil => rfl
    | cons o r =>
      unfold itemsF
      split
      · simp only [List.flatMap_cons, ih]; rfl
      · rename_i j w hg
        have he := grpTake_eq j w (o :: r)
        split
        · rename_i a p b hab
          rw [hab] at he
          simp only [List.flatMap_cons, ih]
          simpa using he
        · rename_i a hab
          rw [hab] at he
          rw [hone]; simpa using he

/-! ### 3. Telling less -/
theorem Le.sta {X : Cx} {w0 w : World} {ρ0 ρ : Nat → Value} {M0 M M' : Mem} {F F' : List AV} {a : Act} {σ : Nat → Nat} (hL : Le M0.length F M F' M' σ) (h : Sta X w0 ρ0 M0 F M a w ρ) : Sta X w0 ρ0 M0 F' M' a w (fun b => ρ (σ b)) := by
  have henv : ∀ b, On (fun b => envOf ρ M (σ b)) (envOf (fun b => ρ (σ b)) M') b := by
    intro b
    cases hl : live M' b with
    | true =>
      obtain ⟨h1, h2⟩ := hL.blk b hl
      have hb : b < M'.length := by
        unfold live at hl
        by_cases hb : b < M'.length
        · exact hb
        · rw [show M'.at b = .dead from by simp [Mem.at, List.getD_eq_getElem?_getD, List.getElem?_eq_none (Nat.le_of_not_lt hb)]] at hl
          cases hl
      refine .inr (.inr ?_)
      rw [env_some (at_get hb)]
      show _ = envOf ρ M (σ b)
      rw [env_some (at_get h1), ← h2, Blk.shape_map]
    | false =>
      by_cases hb : b < M'.length
      · refine .inr (.inl ?_)
        rw [env_some (at_get hb)]
        unfold live at hl
        cases hx : M'.at b <;> rw [hx] at hl <;> simp [Blk.shape] at hl ⊢
      · exact .inl (env_none (List.getElem?_eq_none (hL.out b (Nat.le_of_not_lt hb))))
  have hvis : ∀ b x, M'[b]? = some x → ((∃ vs, x = .cells vs) ∨ (∃ t xs, x = .row t xs)) → live M' b = true := by
    intro b x hx hv
    unfold live
    rw [at_of hx]
    rcases hv with ⟨vs, rfl⟩ | ⟨t, xs, rfl⟩ <;> rfl
  have hown : ∀ b g, Owns (fun b => ρ (σ b)) M' b g → Owns ρ M (σ b) g ∧ live M' b = true := by
    intro b g ho
    obtain ⟨x, hx, hv, hg⟩ := owns_cases ho
    have hl := hvis b x hx hv
    obtain ⟨h1, h2⟩ := hL.blk b hl
    rw [at_of hx] at h2
    refine ⟨owns_of (at_get h1) ?_ hg, hl⟩
    rcases hv with ⟨vs, rfl⟩ | ⟨t, xs, rfl⟩
    · exact .inl ⟨_, h2.symm⟩
    · exact .inr ⟨_, _, h2.symm⟩
  have hrf : ∀ (F F' : List AV) (vs : List Value), F'.length = F.length → (∀ s, F'.getD s .junk = .junk ∨ ((F'.getD s .junk).map σ = F.getD s .junk)) → RelF X (envOf ρ M) F vs → RelF X (envOf (fun b => ρ (σ b)) M') F' vs := by
    intro F
    induction F with
    | nil =>
      intro F' vs hl _ hr
      cases F' with
      | nil => cases vs with
        | nil => trivial
        | cons => exact hr.elim
      | cons => simp at hl
    | cons c r ih =>
      intro F' vs hl hs hr
      cases F' with
      | nil => simp at hl
      | cons c' r' =>
        cases vs with
        | nil => exact hr.elim
        | cons v s =>
          refine ⟨?_, ih r' s (by simpa using hl) (fun k => by simpa using hs (k + 1)) hr.2⟩
          have h0 := hs 0
          simp only [List.getD_cons_zero] at h0
          rcases h0 with h0 | h0
          · rw [h0]; trivial
          · have h1 := hr.1
            rw [← h0, RelA_map] at h1
            exact h1.on fun b _ => henv b
  refine ⟨hrf F F' _ hL.flen hL.slot h.rf, ⟨?_, ?_, ?_, h.rep.ro, h.rep.sz⟩, h.df, ⟨hL.len, h.ext.os, h.ext.tape, h.ext.output, h.ext.size, h.ext.frame, ?_, ?_⟩⟩
  · intro b x hx
    cases hl : live M' b with
    | false =>
      unfold live at hl
      rw [at_of hx] at hl
      cases x <;> simp at hl
      trivial
    | true =>
      obtain ⟨h1, h2⟩ := hL.blk b hl
      rw [at_of hx] at h2
      have h3 := h.rep.blk _ _ (at_get h1)
      rw [← h2, RepB_map] at h3
      exact h3.on (fun c _ => henv c) (fun _ _ _ => rfl)
  · intro b b' g h1 h2
    obtain ⟨o1, l1⟩ := hown b g h1
    obtain ⟨o2, l2⟩ := hown b' g h2
    exact hL.inj b b' l1 l2 (h.rep.sep _ _ g o1 o2)
  · intro b g h1
    exact h.rep.base _ g (hown b g h1).1
  · intro b g h1
    exact h.ext.own _ g (hown b g h1).1
  · intro b
    by_cases hb : b < M0.length
    · cases hl : live M' b with
      | false =>
        refine .inr (.inl ?_)
        have hb' : b < M'.length := Nat.lt_of_lt_of_le hb hL.len
        rw [env_some (at_get hb')]
        unfold live at hl
        cases hx : M'.at b <;> rw [hx] at hl <;> simp [Blk.shape] at hl ⊢
      | true =>
        have h1 := henv b
        have h2 := h.ext.keep b
        have hs := hL.old b hb hl
        simp only [On, hs] at h1
        rcases h2 with h2 | h2 | h2
        · exact .inl h2
        · rcases h1 with h1 | h1 | h1
          · rw [h2] at h1; cases h1
          · exact .inr (.inl h1)
          · exact .inr (.inl (h1.trans h2))
        · rcases h1 with h1 | h1 | h1
          · exact .inl (h2 ▸ h1)
          · exact .inr (.inl h1)
          · exact .inr (.inr (h1.trans h2))
    · exact .inl (env_none (List.getElem?_eq_none (Nat.le_of_not_lt hb)))

/-- An empty slice as an empty row of its own. -/
theorem es_push {X : Cx} {w0 w : World} {ρ0 ρ : Nat → Value} {M0 M : Mem} {F : List AV} {a : Act} (h : Sta X w0 ρ0 M0 F M a w ρ) (t : RTy) (ad : Option Addr) :
    Sta X w0 ρ0 M0 F (M ++ [.row t []]) a w (upd ρ M.length (.slice ad 0 0)) ∧ RelC X (envOf (upd ρ M.length (.slice ad 0 0)) (M ++ [.row t []])) (.row M.length) (.slice ad 0 0) ∧
      (envOf ρ M).to (envOf (upd ρ M.length (.slice ad 0 0)) (M ++ [.row t []])) := by
  have hp := h.rep.push (w' := w) (u := .slice ad 0 0) (x := .row t []) (fun _ _ => rfl) (Nat.le_refl _) rfl rfl rfl (.inl ⟨rfl, ad, rfl⟩) (fun g hg => by cases ad <;> simp [blkOf] at hg)
  refine ⟨⟨h.rf.to hp.2.keep, hp.1, h.df, h.ext.trans hp.2⟩, ?_, hp.2.keep⟩
  simp only [RelC, envOf_push_new ρ M _ (.row t []) rfl]
  exact ⟨trivial, ad, 0, 0, rfl⟩

theorem RelV1s.reset {X : Cx} {E : Env} : ∀ {cs : List V1} {vs : List Value} (i : Nat) {x : V1}, RelV1s X E cs vs → (∀ v, vs[i]? = some v → RelV1 X E x v) → RelV1s X E (cs.set i x) vs
  | [], [], _, _, _, _ => trivial
  | _ :: _, v :: _, 0, _, h, hx => ⟨hx v rfl, h.2⟩
  | _ :: _, _ :: _, i + 1, _, h, hx => ⟨h.1, RelV1s.reset i h.2 fun v hv => hx v (by simpa using hv)⟩
  | [], _ :: _, _, _, h, _ => h.elim
  | _ :: _, [], _, _, h, _ => h.elim
theorem RelCs.reset {X : Cx} {E : Env} : ∀ {cs : List Cell} {vs : List Value} (i : Nat) {x : Cell}, RelCs X E cs vs → (∀ v, vs[i]? = some v → RelC X E x v) → RelCs X E (cs.set i x) vs
  | [], [], _, _, _, _ => trivial
  | _ :: _, v :: _, 0, _, h, hx => ⟨hx v rfl, h.2⟩
  | _ :: _, _ :: _, i + 1, _, h, hx => ⟨h.1, RelCs.reset i h.2 fun v hv => hx v (by simpa using hv)⟩
  | [], _ :: _, _, _, h, _ => h.elim
  | _ :: _, [], _, _, h, _ => h.elim

theorem getD_get {α : Type} {xs : List α} {s : Nat} {d x : α} (h : xs.getD s d = x) (hx : x ≠ d) : xs[s]? = some x := by
  rw [List.getD_eq_getElem?_getD] at h
  cases hs : xs[s]? with
  | none => rw [hs] at h; exact absurd h.symm hx
  | some y => rw [hs] at h; simpa using h

/-- Other cells in one block, the world as it is. -/
theorem cells_reset {X : Cx} {w0 w : World} {ρ0 ρ : Nat → Value} {M0 M : Mem} {F : List AV} {a : Act} {b : Nat} {vs vs' : List Cell} (h : Sta X w0 ρ0 M0 F M a w ρ) (hb : M[b]? = some (.cells vs)) (hl : vs'.length = vs.length)
    (hr : ∀ g cs e, ρ b = .pointer (some ⟨g, 0, none⟩) → w.heap[g]? = some (.cells cs e (0, 0)) → RelCs X (envOf ρ M) vs cs.toList → RelCs X (envOf ρ M) vs' cs.toList) : Sta X w0 ρ0 M0 F (M.set b (.cells vs')) a w ρ := by
  have hlt : b < M.length := (List.getElem?_eq_some_iff.1 hb).1
  have henv : envOf ρ (M.set b (.cells vs')) = envOf ρ M := by
    funext c
    by_cases hc : c = b
    · subst hc
      rw [env_some (show (M.set c (.cells vs'))[c]? = some (.cells vs') by simp [hlt]), env_some hb]
      simp [Blk.shape, hl]
    · unfold envOf; rw [get_set_other hc]
  have hown : ∀ c g, Owns ρ (M.set b (.cells vs')) c g → Owns ρ M c g := by
    intro c g ho
    obtain ⟨x, hx, hv, hg⟩ := owns_cases ho
    rcases get_set_cases hx with ⟨rfl, _, rfl⟩ | ⟨_, hx'⟩
    · exact owns_of hb (.inl ⟨_, rfl⟩) hg
    · exact owns_of hx' hv hg
  refine ⟨by rw [henv]; exact h.rf, ⟨?_, fun c c' g h1 h2 => h.rep.sep c c' g (hown c g h1) (hown c' g h2), fun c g h1 => h.rep.base c g (hown c g h1), h.rep.ro, h.rep.sz⟩, h.df,
    ⟨by simpa using h.ext.len, h.ext.os, h.ext.tape, h.ext.output, h.ext.size, h.ext.frame, fun c g h1 => h.ext.own c g (hown c g h1), by rw [henv]; exact h.ext.keep⟩⟩
  intro c x hx
  rw [henv]
  rcases get_set_cases hx with ⟨rfl, _, rfl⟩ | ⟨_, hx'⟩
  · obtain ⟨g, cs, e, hu, hg, hrel⟩ := h.rep.blk _ _ hb
    exact ⟨g, cs, e, hu, hg, hr g cs e hu hg hrel⟩
  · exact h.rep.blk c x hx'

theorem xpand1_sound {X : Cx} {w0 w : World} {ρ0 ρ : Nat → Value} {M0 M : Mem} {F : List AV} {a : Act} {p : XP} {y : List AV × Mem} (hx : xpand1 p (F, M) = some y) (h : Sta X w0 ρ0 M0 F M a w ρ) : ∃ ρ', Sta X w0 ρ0 M0 y.1 y.2 a w ρ' := by
  cases p with
  | slot s t =>
    simp only [xpand1] at hx
    split at hx
    · rename_i hs
      cases hx
      obtain ⟨v, hv, hr⟩ := h.rf.get s _ (getD_get hs (by simp))
      obtain ⟨ad, rfl⟩ := (hr : ∃ a, v = .slice a 0 0)
      obtain ⟨h1, h2, _⟩ := es_push h t ad
      refine ⟨_, ⟨h1.rf.reset fun v' hv' => ?_, h1.rep, h1.df, h1.ext⟩⟩
      rw [hv] at hv'; cases hv'
      exact h2
    · cases hx
  | tup s i t =>
    simp only [xpand1] at hx
    split at hx
    · rename_i xs hs
      split at hx
      · rename_i hi
        cases hx
        obtain ⟨v, hv, hr⟩ := h.rf.get s _ (getD_get hs (by simp))
        obtain ⟨us, rfl, hrs⟩ := hr
        obtain ⟨u, hu, hru⟩ := hrs.get i _ hi
        obtain ⟨ad, rfl⟩ := (hru : ∃ a, u = .slice a 0 0)
        obtain ⟨h1, h2, h3⟩ := es_push h t ad
        refine ⟨_, ⟨h1.rf.reset fun v' hv' => ?_, h1.rep, h1.df, h1.ext⟩⟩
        rw [hv] at hv'; cases hv'
        refine ⟨us, rfl, RelV1s.reset i (hrs.to h3) fun u' hu' => ?_⟩
        rw [hu] at hu'; cases hu'
        exact h2
      · cases hx
    · cases hx
  | blk b j t =>
    simp only [xpand1] at hx
    split at hx
    · rename_i vs hb
      split at hx
      · rename_i hj
        cases hx
        have hb' := of_at hb (by simp)
        have hlt : b < M.length := (List.getElem?_eq_some_iff.1 hb').1
        obtain ⟨g, cs, e, hu, hg, hrel⟩ := h.rep.blk _ _ hb'
        obtain ⟨u, huj, hru⟩ := hrel.get j _ hj
        obtain ⟨ad, rfl⟩ := (hru : ∃ a, u = .slice a 0 0)
        obtain ⟨h1, h2, h3⟩ := es_push h t ad
        have hb1 : (M ++ [Blk.row t []])[b]? = some (.cells vs) := by rw [get_push_old hlt]; exact hb'
        have hset : M.set b (.cells (vs.set j (.row M.length))) ++ [Blk.row t []] = (M ++ [Blk.row t []]).set b (.cells (vs.set j (.row M.length))) := by
          rw [List.set_append_left _ _ hlt]
        rw [hset]
        refine ⟨_, cells_reset h1 hb1 (by simp) fun g' cs' e' hu' hg' hus => RelCs.reset j hus fun u' hu'' => ?_⟩
        rw [upd_other ρ _ (Nat.ne_of_lt hlt), hu] at hu'
        have : g = g' := by simpa using hu'
        subst this
        rw [hg] at hg'
        cases hg'
        rw [huj] at hu''; cases hu''
        exact h2
      · cases hx
    · cases hx

theorem xpand_sound {X : Cx} {w0 w : World} {ρ0 : Nat → Value} {M0 : Mem} {a : Act} : ∀ {ps : List XP} {F : List AV} {M : Mem} {ρ : Nat → Value} {y : List AV × Mem}, xpand ps (F, M) = some y → Sta X w0 ρ0 M0 F M a w ρ → ∃ ρ', Sta X w0 ρ0 M0 y.1 y.2 a w ρ'
  | [], F, M, ρ, y, hx, h => by cases hx; exact ⟨ρ, h⟩
  | p :: r, F, M, ρ, y, hx, h => by
    unfold xpand at hx
    split at hx
    · rename_i z hz
      obtain ⟨ρ', h'⟩ := xpand1_sound hz h
      exact xpand_sound (F := z.1) (M := z.2) hx h'
    · cases hx

theorem Wk.sound {X : Cx} {w0 w : World} {ρ0 ρ : Nat → Value} {M0 M : Mem} {F : List AV} {a : Act} {I : List AV → Mem → Prop} (h : Wk M0.length F M I) (hS : Sta X w0 ρ0 M0 F M a w ρ) : ∃ F' M' ρ', I F' M' ∧ Sta X w0 ρ0 M0 F' M' a w ρ' := by
  obtain ⟨ps, y, hy, σ, F', M', hL, hI⟩ := h
  obtain ⟨ρ', h'⟩ := xpand_sound hy hS
  exact ⟨F', M', _, hI, hL.sta h'⟩

/-! ### 4. Code -/
def exOf : Ex → Exit
  | .normal => .normal
  | .exit id => .exit id
  | .ret => .ret

/-- What is asked of regions that draw their order. -/
def DrawOk (P : Program) (eid : RTy → TypeId) (Γ : Gam) (τ : Tys) : Prop :=
  ∀ (W0 w0 : World) (ρ0 : Nat → Value) (M0 : Mem) (id : Nat) (ops : Array Oper) (F : List AV) (M : Mem) (K : List AV → Mem → Prop) (Q : Exit → Act → World → Prop) (a : Act) (w : World) (ρ : Nat → Value),
    ifT (backward 0 ops.toList) (runDraw Γ τ ops.toList (ancs [] ops.toList) ops.toList F M [] K) → Sta ⟨P, W0, eid⟩ w0 ρ0 M0 F M a w ρ →
    (∀ F M a w ρ, K F M → Sta ⟨P, W0, eid⟩ w0 ρ0 M0 F M a w ρ → Q .normal a w) → (Code.region id ops true).wp P Q a w

theorem vc_sound {P : Program} {W0 : World} {eid : RTy → TypeId} {Γ : Gam} {τ : Tys} (hT : Agree ⟨P, W0, eid⟩ τ) (hΓ : GamOk P eid Γ) (hD : DrawOk P eid Γ τ) {w0 : World} {ρ0 : Nat → Value} {M0 : Mem} : ∀ (c : Code) (F : List AV) (M : Mem) (K : Ex → List AV → Mem → Prop) (Q : Exit → Act → World → Prop) (a : Act) (w : World) (ρ : Nat → Value),
    vc Γ τ M0.length c F M K → Sta ⟨P, W0, eid⟩ w0 ρ0 M0 F M a w ρ →
    (∀ e F M a w ρ, K e F M → Sta ⟨P, W0, eid⟩ w0 ρ0 M0 F M a w ρ → Q (exOf e) a w) → c.wp P Q a w := by
  intro c
  induction c with
  | skip => intro F M K Q a w ρ h hS hK; exact wp_skip (hK .normal F M a w ρ h hS)
  | region id ops draw =>
    intro F M K Q a w ρ h hS hK
    cases draw with
    | false =>
      refine wp_region ?_
      rw [List.range_eq_range']
      exact runItems_sound hT hΓ (fun F M a w ρ h hS => hK .normal F M a w ρ h hS) _ 0 F M a w ρ (by rw [itemsF_eq]; rfl) h hS
    | true => exact hD W0 w0 ρ0 M0 id ops F M _ Q a w ρ h hS (fun F M a w ρ h hS => hK .normal F M a w ρ h hS)
  | seq x y ihx ihy =>
    intro F M K Q a w ρ h hS hK
    refine wp_seq (ihx F M _ _ a w ρ h hS fun e F' M' a' w' ρ' h' hS' => ?_)
    cases e with
    | normal => exact ihy F' M' K Q a' w' ρ' h' hS' hK
    | exit id => exact hK (.exit id) F' M' a' w' ρ' h' hS'
    | ret => exact hK .ret F' M' a' w' ρ' h' hS'
  | cond c x y ihx ihy =>
    intro F M K Q a w ρ h hS hK
    unfold vc at h
    split at h
    · rename_i b hb
      have hc := oe_rel hS.rf c
      rw [hb] at hc
      have hc : a.eval c = .bool b := hc
      cases b with
      | true => exact wp_cond_true hc (ihx F M K Q a w ρ h hS hK)
      | false => exact wp_cond_false hc (ihy F M K Q a w ρ h hS hK)
    · exact h.elim
  | block id body ih =>
    intro F M K Q a w ρ h hS hK
    refine wp_block (ih F M _ _ a w ρ h hS fun e F' M' a' w' ρ' h' hS' => ?_)
    cases e with
    | normal => exact hK .normal F' M' a' w' ρ' h' hS'
    | ret => exact hK .ret F' M' a' w' ρ' h' hS'
    | exit j =>
      simp only [exOf, Exit.inBlock]
      simp only at h'
      cases hj : Nat.beq j id with
      | true =>
        rw [hj] at h'
        rw [if_pos (Nat.eq_of_beq_eq_true hj)]
        exact hK .normal F' M' a' w' ρ' h' hS'
      | false =>
        rw [hj] at h'
        rw [if_neg (fun e => by subst e; simp at hj)]
        exact hK (.exit j) F' M' a' w' ρ' h' hS'
  | loop body ih =>
    intro F M K Q a w ρ h hS hK
    obtain ⟨I, ⟨n0, h0⟩, hround⟩ := (h : LoopVC M0.length (vc Γ τ M0.length body) F M K)
    obtain ⟨F1, M1, ρ1, hI1, hS1⟩ := h0.sound hS
    refine wp_loop_ghost (fun n a w => ∃ F M ρ, I n F M ∧ Sta ⟨P, W0, eid⟩ w0 ρ0 M0 F M a w ρ) n0 ⟨F1, M1, ρ1, hI1, hS1⟩ ?_
    rintro n a w ⟨F, M, ρ, hI, hS⟩
    refine ih F M _ _ a w ρ (hround n F M hI) hS fun e F' M' a' w' ρ' h' hS' => ?_
    cases e with
    | normal =>
      obtain ⟨n', hlt, hW⟩ := h'
      obtain ⟨F2, M2, ρ2, hI2, hS2⟩ := hW.sound hS'
      exact ⟨n', hlt, F2, M2, ρ2, hI2, hS2⟩
    | exit id => exact hK (.exit id) F' M' a' w' ρ' h' hS'
    | ret => exact hK .ret F' M' a' w' ρ' h' hS'
  | exit id => intro F M K Q a w ρ h hS hK; exact wp_exit (hK (.exit id) F M a w ρ h hS)
  | ret => intro F M K Q a w ρ h hS hK; exact wp_ret (hK .ret F M a w ρ h hS)
  | _ => intro F M K Q a w ρ h hS hK; exact h.elim

/-! ### 5. Functions -/
def resG (a : Act) : ResultVar → Sem Value
  | .tmp t => pure (a.tmps.getD t undef)
  | .cell a' t => do loadVar t (← asAddr (a.tmps.getD a' undef))
theorem resOf_run {X : Cx} {τ : Tys} (hT : Agree X τ) {F : List AV} {M : Mem} {a : Act} {w : World} {ρ : Nat → Value} (hF : RelF X (envOf ρ M) F a.tmps.toList) (hR : Rep X ρ M w) {r : ResultVar} {x : V1} (h : resOf τ F M r = some x) :
    ∃ v, (resG a r).run X.P w = .ok v w ∧ RelV1 X (envOf ρ M) x v := by
  have hget : ∀ t, F.getD t .junk ≠ .junk → RelA X (envOf ρ M) (F.getD t .junk) (a.tmps.getD t undef) := by
    intro t hne
    obtain ⟨v, hv, hr⟩ := hF.get t _ (getD_get rfl hne)
    have : a.tmps.getD t undef = v := by rw [Array.getD_eq_getD_getElem?, ← Array.getElem?_toList, hv]; rfl
    rw [this]; exact hr
  cases r with
  | tmp t =>
    simp only [resOf] at h
    unfold v1Of at h
    split at h
    · rename_i y hy
      cases h
      have := hget t (by rw [hy]; simp)
      rw [hy] at this
      exact ⟨_, rfl, this⟩
    · cases h
  | cell t ty =>
    simp only [resOf] at h
    split at h
    · rename_i ti b i off hti hf
      split at h
      · rename_i vs hb
        cases hle : Nat.ble (off + ti.size) vs.length with
        | false => rw [hle] at h; cases h
        | true =>
          rw [hle] at h
          simp only [cond_true] at h
          have h1 := hget t (by rw [hf]; simp)
          rw [hf] at h1
          have h1 : RelC X (envOf ρ M) (.ptr b i off) (a.tmps.getD t undef) := h1
          obtain ⟨g, cs, e, hu, hv, hg, hr, hi⟩ := ptr_cells hR hb h1
          have hle' := Nat.le_of_ble_eq_true hle
          split at h
          · rename_i av hav
            obtain ⟨v, hv1, hv2⟩ := loadVar_run (hT ty ti hti) (w := w) (g := g) (off := off) (by simp; omega) ((hr.drop off).take ti.size) (cells_part hg) hav
            unfold v1Of at h
            split at h
            · rename_i y hy
              cases h
              refine ⟨v, ?_, hv2⟩
              simp only [resG, Sem.run_bind, hv, asAddr, Sem.run_pure, Result.andThen_ok]
              exact hv1
            · cases h
          · cases h
      · cases h
    · cases h

theorem ressOf_run {X : Cx} {τ : Tys} (hT : Agree X τ) {F : List AV} {M : Mem} {a : Act} {w : World} {ρ : Nat → Value} (hF : RelF X (envOf ρ M) F a.tmps.toList) (hR : Rep X ρ M w) : ∀ {rs : List ResultVar} {xs : List V1}, ressOf τ F M rs = some xs →
    ∃ vs, (rs.mapM (resG a)).run X.P w = .ok vs w ∧ RelV1s X (envOf ρ M) xs vs
  | [], xs, h => by
    cases h
    exact ⟨[], rfl, trivial⟩
  | r :: rs, xs, h => by
    unfold ressOf at h
    split at h
    · rename_i x ys hx hys
      cases h
      obtain ⟨v, hv, hr⟩ := resOf_run hT hF hR hx
      obtain ⟨vs, hvs, hrs⟩ := ressOf_run hT hF hR hys
      refine ⟨v :: vs, ?_, hr, hrs⟩
      rw [List.mapM_cons]
      simp only [Sem.run_bind, hv, hvs, Result.andThen_ok, Sem.run_pure]
    · cases h

theorem RelV1s.length {X : Cx} {E : Env} : ∀ {cs : List V1} {vs : List Value}, RelV1s X E cs vs → vs.length = cs.length
  | [], [], _ => rfl
  | _ :: _, _ :: _, h => congrArg (· + 1) (RelV1s.length h.2)
  | [], _ :: _, h => h.elim
  | _ :: _, [], h => h.elim

theorem results_run {X : Cx} {τ : Tys} (hT : Agree X τ) {fn : Func} {F : List AV} {M : Mem} {a : Act} {w : World} {ρ : Nat → Value} (hF : RelF X (envOf ρ M) F a.tmps.toList) (hR : Rep X ρ M w) {xs : List V1} (h : ressOf τ F M fn.results.toList = some xs) :
    ∃ v, (results fn a.tmps).run X.P w = .ok v w ∧ RelA X (envOf ρ M) (tupOf xs) v := by
  obtain ⟨vs, hvs, hr⟩ := ressOf_run hT hF hR h
  have hlen := hr.length
  have harr : (fn.results.mapM (resG a)).run X.P w = .ok vs.toArray w := by
    rw [Array.mapM_eq_mapM_toList, ← bind_pure_comp, Sem.run_bind, hvs]
    rfl
  have e : (results fn a.tmps).run X.P w = ((fn.results.mapM (resG a)).run X.P w).andThen (fun vs w => .ok (if h : vs.size = 1 then vs[0] else .tuple vs) w) := by
    have : results fn a.tmps = (fn.results.mapM (resG a) >>= fun vs => pure (if h : vs.size = 1 then vs[0] else .tuple vs)) := by
      unfold results
      congr 2
    rw [this, Sem.run_bind]
    rfl
  refine ⟨if h : vs.toArray.size = 1 then vs.toArray[0] else .tuple vs.toArray, ?_, ?_⟩
  · rw [e, harr]; rfl
  · cases xs with
    | nil =>
      cases vs with
      | nil => exact ⟨#[], rfl, trivial⟩
      | cons => exact hr.elim
    | cons x r =>
      cases vs with
      | nil => exact hr.elim
      | cons v s =>
        cases r with
        | nil =>
          cases s with
          | nil => exact hr.1
          | cons => exact hr.2.elim
        | cons y r' =>
          cases s with
          | nil => exact hr.2.elim
          | cons v' s' => exact ⟨(v :: v' :: s').toArray, rfl, hr⟩

/-- A function that comes to what its summary says. -/
theorem holds_of {P : Program} {eid : RTy → TypeId} {Γ : Gam} {τ : Tys} (hT : ∀ W0, Agree ⟨P, W0, eid⟩ τ) (hΓ : GamOk P eid Γ) (hD : DrawOk P eid Γ τ) {f : FuncId} {fn : Func} {S : Summ} (hf : P.funcs[f]? = some fn) (hname : (fn.name != "runtime.NumGoroutine") = true)
    (h : MeetsAt Γ τ fn S) (hb : fn.body.isSome = true) : Holds P eid f S := by
  refine ⟨⟨fn, hf, by simpa using hname, hb⟩, fun xs M t ht => (h xs M t ht).1, ?_⟩
  intro W0 ρ w xs M vs t ht hp hR hF
  have hv := (h xs M t ht).2 hp
  unfold vcFunc at hv
  split at hv
  · rename_i c hc
    refine calls_of_wp hf hc (vc_sound (hT W0) hΓ hD (w0 := w) (ρ0 := ρ) (M0 := M) c _ M _ _ _ w ρ hv ⟨?_, hR, rfl, Ext.refl w ρ M⟩ ?_)
    · rw [Array.toList_append]
      refine hF.append ?_
      rw [Array.toList_replicate]
      have := hF.length
      rw [show fn.ntmps - vs.size = fn.ntmps - xs.length by rw [← this]; simp]
      exact RelF.undefs _
    · intro e F' M' a' w' ρ' hq hS
      have fin : ∀ {vs' : List V1}, ressOf τ F' M' fn.results.toList = some vs' → Ends M.length t.ev M (tupOf vs') M' → a'.defers = [] ∧ ∃ v, (results fn a'.tmps).run P w' = .ok v w' ∧
          ∃ v' ρ'', Ending.returned v = .returned v' ∧ RelA ⟨P, W0, eid⟩ (envOf ρ'' (outM M t.ev)) t.ev.val v' ∧ Rep ⟨P, W0, eid⟩ ρ'' (outM M t.ev) w' ∧ Ext w ρ M w' ρ'' (outM M t.ev) := by
        intro vs' hvs he
        obtain ⟨v, hrun, hrel⟩ := results_run (hT W0) hS.rf hS.rep hvs
        refine ⟨hS.df, v, hrun, v, ?_⟩
        have hS' : Sta ⟨P, W0, eid⟩ w ρ M [tupOf vs'] M' { tmps := #[v], defers := [] } w' ρ' := ⟨⟨hrel, trivial⟩, hS.rep, rfl, hS.ext⟩
        obtain ⟨F2, M2, ρ2, ⟨hF2, hM2⟩, hS2⟩ := he.sound hS'
        subst hF2
        have hM2 : M2 = outM M t.ev := hM2
        subst hM2
        exact ⟨ρ2, rfl, hS2.rf.1, hS2.rep, hS2.ext⟩
      cases e with
      | exit id => exact hq.elim
      | normal =>
        simp only at hq
        split at hq
        · rename_i vs' hvs; exact fin hvs hq
        · exact hq.elim
      | ret =>
        simp only at hq
        split at hq
        · rename_i vs' hvs; exact fin hvs hq
        · exact hq.elim
  · exact hv.elim
end Lw
