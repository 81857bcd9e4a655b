/- The abstract operations are what the machine's operations do. -/
import Derived.Test.YtijcloeapcapiaaFw4
import Derived.Laws.StructEq
set_option linter.unusedVariables false
set_option linter.unusedSimpArgs false
namespace Lw
open Go

/-! ### 1. The program's types -/
def czero : Cell → Value
  | .pl c => c.val
  | .nilp => .pointer none
  | _ => .slice none 0 0
def okZ : List Cell → Bool
  | [] => true
  | .pl _ :: r | .nilp :: r | .es :: r => okZ r
  | _ => false
def aggD : TypeDesc → Bool
  | .struct _ | .array _ _ => true
  | _ => false

structure AgreeT (X : Cx) (t : TypeId) (ti : TI) : Prop where
  size : (X.P.info? t).map (·.size) = some ti.size
  zero : ti.zero ≠ [] → okZ ti.zero = true ∧ ∃ z, (X.P.info? t).map (·.zero) = some (some z) ∧ z.cells.toList = ti.zero.map czero
  agg : ∃ d, X.P.underlying t = some d ∧ aggD d = ti.agg
  flds : ti.flds ≠ [] → ∃ fs : Array Field, X.P.underlying t = some (.struct fs) ∧ fs.toList.map (fun f => (f.offset, (X.P.info? f.type).map (·.size))) = ti.flds.map (fun x => (x.off, some x.sz)) ∧ (ti.flds.all fun x => decide (0 < x.sz)) = true
  fagg : ∀ fs : Array Field, X.P.underlying t = some (.struct fs) → ti.flds ≠ [] → fs.toList.map (fun f => (X.P.underlying f.type).map aggD) = ti.flds.map (fun x => some x.agg)
  elem : ∀ rt, ti.elem = some rt → X.P.underlying t = some (.slice (X.eid rt)) ∧ ∃ z b, (X.P.info? (X.eid rt)).map (fun i => (i.size, i.zero, i.bytes)) = some (rt.sz, some z, b) ∧ z.cells.toList = (rt.enc rt.zero).map PC.val ∧ b ≤ 1000
  ik : ∀ k, ti.ik = some k → X.P.underlying t = some (.int k)
  isBool : ti.isBool = true → X.P.underlying t = some .bool
  isPtr : ti.isPtr = true → ∃ e, X.P.underlying t = some (.pointer e)
  isStr : ti.isStr = true → X.P.underlying t = some .string
  eqk : ti.eqk = true → ∀ zs, plOf ti.zero = some zs → X.P.eqGuardType X.P.depth t = false ∧
    ∀ ps qs w, sameKinds zs ps = true → sameKinds zs qs = true → (Op.equalIn 10000 t (.agg (ps.map PC.val).toArray) (.agg (qs.map PC.val).toArray)).run X.P w = .ok (pcsEq ps qs) w
def Agree (X : Cx) (τ : Tys) : Prop := ∀ t ti, τ t = some ti → AgreeT X t ti

/-! ### 2. Operands -/
theorem constAV_rel {X : Cx} {E : Env} (v : Value) : RelA X E (constAV v) v := by
  unfold constAV
  split <;> first | rfl | trivial | exact ⟨none, rfl⟩
theorem oe_rel {X : Cx} {E : Env} {F : List AV} {a : Act} (h : RelF X E F a.tmps.toList) (x : Operand) : RelA X E (oe F x) (a.eval x) := by
  cases x with
  | const v => exact constAV_rel v
  | global g => trivial
  | func f => exact ⟨#[], #[], rfl, trivial, trivial⟩
  | tmp t =>
    show RelA X E (F.getD t .undef) (a.tmps.getD t undef)
    rw [List.getD_eq_getElem?_getD]
    cases hf : F[t]? with
    | some c =>
      obtain ⟨v, hv, hr⟩ := h.get t c hf
      have : a.tmps.getD t undef = v := by
        rw [Array.getD_eq_getD_getElem?, ← Array.getElem?_toList, hv]; rfl
      rw [this]; exact hr
    | none =>
      have hl : a.tmps.toList.length ≤ t := by rw [h.length]; simpa using hf
      have : a.tmps.getD t undef = undef := by
        rw [Array.getD_eq_getD_getElem?, ← Array.getElem?_toList, List.getElem?_eq_none hl]; rfl
      rw [this]; rfl
theorem putF_rel {X : Cx} {E : Env} {F : List AV} {a : Act} {x : AV} {v : Value} (h : RelF X E F a.tmps.toList) (hv : RelA X E x v) (d : Option Tmp) : RelF X E (putF F d x) (a.put d v).tmps.toList := by
  cases d with
  | none => exact h
  | some d =>
    show RelF X E (F.set d x) (a.tmps.setIfInBounds d v).toList
    rw [Array.toList_setIfInBounds]
    exact h.set hv d
theorem put_defers (a : Act) (d : Option Tmp) (v : Value) : (a.put d v).defers = a.defers := by cases d <;> rfl
theorem map_eval {X : Cx} {E : Env} {F : List AV} {a : Act} (h : RelF X E F a.tmps.toList) (xs : Array Operand) : RelF X E (xs.toList.map (oe F)) (xs.map a.eval).toList := by
  rw [Array.toList_map]
  exact RelF.ofOp (oe_rel h) xs.toList

/-! ### 3. What is to be shown of an operation -/
def OpOk (X : Cx) (o : Oper) (a : Act) (w : World) (ρ : Nat → Value) (M : Mem) (x : OR) : Prop :=
  ∀ (next : Act → World → Prop) (Q : Exit → Act → World → Prop),
    (∀ v w' ρ', RelA X (envOf ρ' x.mem) x.val v → Rep X ρ' x.mem w' → Ext w ρ M w' ρ' x.mem → next (a.put o.dst v) w') → o.wp X.P a w next Q

theorem OpOk.value {X : Cx} {o : Oper} {a : Act} {w w' : World} {ρ ρ' : Nat → Value} {M : Mem} {x : OR} {v : Value} (h : (execOp a.eval o).run X.P w = .ok (.value v) w')
    (hv : RelA X (envOf ρ' x.mem) x.val v) (hR : Rep X ρ' x.mem w') (hE : Ext w ρ M w' ρ' x.mem) : OpOk X o a w ρ M x := by
  intro next Q hn
  unfold Oper.wp
  rw [h, Oper.upon_value]
  exact hn v w' ρ' hv hR hE
theorem OpOk.skip {X : Cx} {o : Oper} {a : Act} {w w' : World} {ρ ρ' : Nat → Value} {M : Mem} {x : OR} (h : (execOp a.eval o).run X.P w = .ok .skip w')
    (hv : x.val = .undef) (hR : Rep X ρ' x.mem w') (hE : Ext w ρ M w' ρ' x.mem) : OpOk X o a w ρ M x := by
  intro next Q hn
  unfold Oper.wp
  rw [h, Oper.upon_skip]
  exact hn undef w' ρ' (by rw [hv]; rfl) hR hE
theorem OpOk.pure {X : Cx} {o : Oper} {a : Act} {w : World} {ρ : Nat → Value} {M : Mem} {p : Option Prop} {av : AV} {v : Value} (hR : Rep X ρ M w) (h : (execOp a.eval o).run X.P w = .ok (.value v) w)
    (hv : RelA X (envOf ρ M) av v) : OpOk X o a w ρ M ⟨p, av, M⟩ := OpOk.value h hv hR (Ext.refl w ρ M)

/-! ### 4. Numbers -/
theorem kEq_eq {j k : IntKind} (h : kEq j k = true) : j = k := by cases j <;> cases k <;> first | rfl | cases h
theorem aint_run {P : Program} {op : BinOp} {j k : IntKind} {a b : Int} {p : Option Prop} {av : AV} (h : aint op j a k b = some (p, av)) (hp : preOk p) (t : TypeId) (w : World) :
    ∃ c : PC, av = .one (.c (.pl c)) ∧ (binOp op t (.int j a) (.int k b)).run P w = .ok c.val w := by
  unfold aint at h
  split at h
  · cases h
    exact ⟨_, rfl, by
      have hp : 0 ≤ b := hp
      simp [binOp, Op.shift, shI, PC.val, Int.not_lt.2 hp]⟩
  · cases h
    exact ⟨_, rfl, by
      have hp : 0 ≤ b := hp
      simp [binOp, Op.shift, shI, PC.val, Int.not_lt.2 hp]⟩
  · cases hk : kEq j k with
    | false => rw [hk] at h; cases h
    | true =>
      rw [hk] at h
      have := kEq_eq hk
      subst this
      simp only [cond_true] at h
      split at h
      all_goals try (cases h; done)
      all_goals (cases h; refine ⟨_, rfl, ?_⟩)
      case h_1 | h_2 | h_3 => simp [binOp, Op.intArith, PC.val]
      case h_4 | h_5 =>
        have hp : b ≠ 0 := hp
        simp [binOp, Op.intDiv, PC.val, hp]
      case h_6 | h_7 | h_8 | h_9 => simp [binOp, Op.intBits, bitsI, PC.val]
      all_goals simp [binOp, Op.intCmp, PC.val]
theorem eqGuard_int {P : Program} (op : BinOp) (t : TypeId) (x y : Operand) (j k : IntKind) (a b : Int) (w : World) : (eqGuard op t x y (.int j a) (.int k b)).run P w = .ok () w := by
  cases op <;> simp [eqGuard]
theorem eqGuard_bool {P : Program} (op : BinOp) (t : TypeId) (x y : Operand) (a b : Bool) (w : World) : (eqGuard op t x y (.bool a) (.bool b)).run P w = .ok () w := by
  cases op <;> simp [eqGuard]
theorem eqGuard_ptr {P : Program} (op : BinOp) (t : TypeId) (x y : Operand) (a b : Option Addr) (w : World) : (eqGuard op t x y (.pointer a) (.pointer b)).run P w = .ok () w := by
  cases op <;> simp [eqGuard]

theorem run_equal_ptr_nil {P : Program} (w : World) (d : Nat) (t e : TypeId) (a : Option Addr) (hd : P.underlying t = some (.pointer e)) : (Op.equalIn (d + 1) t (.pointer a) (.pointer none)).run P w = .ok a.isNone w := by
  cases a <;> simp [Op.equalIn, run_underlying hd]
theorem run_eql_ptr_nil {P : Program} (w : World) (t e : TypeId) (a : Option Addr) (hd : P.underlying t = some (.pointer e)) : (binOp .eql t (.pointer a) (.pointer none)).run P w = .ok (.bool a.isNone) w := by
  simp only [binOp]
  simp [Op.equal, Op.maxDepth, run_equal_ptr_nil w 9999 t e a hd]
theorem run_neq_ptr_nil {P : Program} (w : World) (t e : TypeId) (a : Option Addr) (hd : P.underlying t = some (.pointer e)) : (binOp .neq t (.pointer a) (.pointer none)).run P w = .ok (.bool (!a.isNone)) w := by
  simp only [binOp]
  simp [Op.equal, Op.maxDepth, run_equal_ptr_nil w 9999 t e a hd]

theorem isLivePtr_rel {X : Cx} {ρ : Nat → Value} {M : Mem} {p : Cell} {v : Value} (h : isLivePtr M p = true) (hr : RelC X (envOf ρ M) p v) : ∃ a, v = .pointer (some a) := by
  cases p <;> simp only [isLivePtr] at h <;> try cases h
  case ptr b i off =>
    unfold live at h
    simp only [RelC] at hr
    split at hr
    · exact hr.elim
    · rename_i he
      unfold envOf at he
      cases hb : M[b]? with
      | none => rw [hb] at he; cases he
      | some x =>
        rw [hb] at he
        rw [at_of hb] at h
        cases x <;> simp [Blk.shape] at he h
    · obtain ⟨g, _, rfl, _⟩ := hr; exact ⟨_, rfl⟩
    · obtain ⟨g, m, c, _, rfl, _⟩ := hr; exact ⟨_, rfl⟩

theorem abin_sound {X : Cx} {τ : Tys} (hT : Agree X τ) {ρ : Nat → Value} {M : Mem} {op : BinOp} {t : TypeId} {x y : AV} {u v : Value} {p : Option Prop} {av : AV}
    (h : abin τ M op t x y = some (p, av)) (hp : preOk p) (hx : RelA X (envOf ρ M) x u) (hy : RelA X (envOf ρ M) y v) (xo yo : Operand) (w : World) :
    ∃ c : PC, av = .one (.c (.pl c)) ∧ ((eqGuard op t xo yo u v).run X.P w = .ok () w) ∧ (binOp op t u v).run X.P w = .ok c.val w := by
  unfold abin at h
  split at h
  · rename_i j a k b
    have hu : u = .int j a := hx
    have hv : v = .int k b := hy
    subst hu; subst hv
    obtain ⟨c, hc, hr⟩ := aint_run (P := X.P) h hp t w
    exact ⟨c, hc, eqGuard_int op t xo yo j k a b w, hr⟩
  · rename_i a b
    have hu : u = .bool a := hx
    have hv : v = .bool b := hy
    subst hu; subst hv
    split at h
    · rename_i ti hti
      have hA := hT t ti hti
      cases hb : ti.isBool with
      | false => rw [hb] at h; cases h
      | true =>
        rw [hb] at h
        have hd := hA.isBool hb
        simp only [cond_true] at h
        split at h
        · cases h
          refine ⟨_, rfl, eqGuard_bool _ t xo yo a b w, ?_⟩
          simp only [binOp]
          simp [Op.equal, Op.maxDepth, run_equalIn_bool' w 9999 t a b hd, PC.val]
        · cases h
          refine ⟨_, rfl, eqGuard_bool _ t xo yo a b w, ?_⟩
          simp only [binOp]
          simp [Op.equal, Op.maxDepth, run_equalIn_bool' w 9999 t a b hd, PC.val]
        · cases h
    · cases h
  · rename_i xs ys
    split at h
    · rename_i ti ps qs hti hps hqs
      have hA := hT t ti hti
      obtain ⟨us, rfl, hru⟩ := (hx : ∃ cs : Array Value, u = .agg cs ∧ RelCs X _ xs cs.toList)
      obtain ⟨vs, rfl, hrv⟩ := (hy : ∃ cs : Array Value, v = .agg cs ∧ RelCs X _ ys cs.toList)
      rw [plOf_eq hps] at hru
      rw [plOf_eq hqs] at hrv
      have hus : us = (ps.map PC.val).toArray := by rw [← hru.vals]
      have hvs : vs = (qs.map PC.val).toArray := by rw [← hrv.vals]
      cases hk : (ti.eqk && kindsFit ti.zero ps qs) with
      | false => rw [hk] at h; cases h
      | true =>
        rw [hk] at h
        simp only [cond_true] at h
        rw [Bool.and_eq_true] at hk
        obtain ⟨hk1, hk2⟩ := hk
        unfold kindsFit at hk2
        split at hk2
        · rename_i zs hzs
          rw [Bool.and_eq_true] at hk2
          obtain ⟨hg, hl⟩ := hA.eqk hk1 zs hzs
          have he := hl ps qs w hk2.1 hk2.2
          subst hus; subst hvs
          split at h
          · cases h
            refine ⟨_, rfl, run_eqGuard_agg w _ t xo yo _ _ hg, ?_⟩
            rw [run_eql_struct, he]; rfl
          · cases h
            refine ⟨_, rfl, run_eqGuard_agg w _ t xo yo _ _ hg, ?_⟩
            rw [run_neq_struct, he]; rfl
          · cases h
        · cases hk2
    · cases h
  · rename_i p' q' hnot1 hnot2
    split at h
    · rename_i ti hti
      have hA := hT t ti hti
      cases hb : ti.isPtr with
      | false => rw [hb] at h; cases h
      | true =>
        rw [hb] at h
        obtain ⟨e, hd⟩ := hA.isPtr hb
        simp only [cond_true] at h
        split at h
        · cases h
          have hu : u = .pointer none := hx
          have hv : v = .pointer none := hy
          subst hu; subst hv
          refine ⟨_, rfl, eqGuard_ptr _ t xo yo _ _ w, ?_⟩
          exact run_eql_ptr_nil w t e none hd
        · cases h
          have hu : u = .pointer none := hx
          have hv : v = .pointer none := hy
          subst hu; subst hv
          refine ⟨_, rfl, eqGuard_ptr _ t xo yo _ _ w, ?_⟩
          exact run_neq_ptr_nil w t e none hd
        · cases hl : isLivePtr M p' with
          | false => rw [hl] at h; cases h
          | true =>
            rw [hl] at h
            cases h
            obtain ⟨ad, rfl⟩ := isLivePtr_rel hl (show RelC X (envOf ρ M) p' u from hx)
            have hv : v = .pointer none := hy
            subst hv
            refine ⟨_, rfl, eqGuard_ptr _ t xo yo _ _ w, ?_⟩
            exact run_eql_ptr_nil w t e (some ad) hd
        · cases hl : isLivePtr M p' with
          | false => rw [hl] at h; cases h
          | true =>
            rw [hl] at h
            cases h
            obtain ⟨ad, rfl⟩ := isLivePtr_rel hl (show RelC X (envOf ρ M) p' u from hx)
            have hv : v = .pointer none := hy
            subst hv
            refine ⟨_, rfl, eqGuard_ptr _ t xo yo _ _ w, ?_⟩
            exact run_neq_ptr_nil w t e (some ad) hd
        · cases h
    · cases h
  · cases h
end Lw
