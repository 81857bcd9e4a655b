/- The other abstract operations are what the machine's operations do. -/
import Derived.Test.YtijcloeapcapiaaFw6
set_option linter.unusedVariables false
set_option linter.unusedSimpArgs false
namespace Lw
open Go

theorem set_same {M : Mem} {b : Nat} {x : Blk} (h : M[b]? = some x) : M.set b x = M := by
  apply List.ext_getElem?
  intro k
  rw [List.getElem?_set]
  split
  · rename_i hk; subst hk
    rw [if_pos (List.getElem?_eq_some_iff.1 h).1, h]
  · rfl
theorem store_sound {X : Cx} {τ : Tys} (hT : Agree X τ) {o : Oper} {F : List AV} {M : Mem} {a : Act} {w : World} {ρ : Nat → Value} {x : OR} {t : TypeId} {y z : Operand} (ho : o.op = .store t y z)
    (h : aop τ o F M = some x) (hF : RelF X (envOf ρ M) F a.tmps.toList) (hR : Rep X ρ M w) : OpOk X o a w ρ M x := by
  unfold aop at h
  rw [ho] at h
  simp only at h
  have hy := oe_rel hF y
  have hz := oe_rel hF z
  split at h
  · rename_i ti b i off cs hti hoe hcs
    rw [hoe] at hy
    have hrc := cellsOf_rel hcs hz
    cases hsz : Nat.beq cs.length ti.size with
    | false => rw [hsz] at h; cases h
    | true =>
      rw [hsz] at h
      simp only [cond_true] at h
      have hsz' := Nat.eq_of_beq_eq_true hsz
      split at h
      · rename_i vs hb
        cases hle : Nat.ble (off + ti.size) vs.length with
        | false => rw [hle] at h; cases h
        | true =>
          rw [hle] at h
          cases h
          have hle' := Nat.le_of_ble_eq_true hle
          obtain ⟨g, cur, e, hu, hv, hg, hr, hi⟩ := ptr_cells hR hb hy
          have hb' := of_at hb (by simp)
          have hst := storeVar_run (hT t ti hti) (off := off) hg hrc hsz' (by have := hr.length; simp at this; omega)
          rw [← hv] at hst
          have hch := hR.change (w' := w.setRow g (setMany cur.toList off (a.eval z).cells.toList).toArray) (y := .cells (setMany vs off cs)) hb' (by simp [Blk.shape, setMany_length]) (owns_cells hb')
            (fun k hk => setRow_other w g k _ fun hkg => hk (by rw [hu, hkg]; rfl)) (by simp) rfl rfl rfl
            ⟨g, _, e, hu, setRow_heap w g cur _ e _ hg, by simpa using RelCs.setMany hrc off hr⟩
          exact OpOk.skip (execOp_store ho hst) rfl hch.1 hch.2
      · rename_i rt xs hb
        split at h
        · rename_i ps hps
          split at h
          · rename_i yv hy'
            cases h
            obtain ⟨g, cap, cur, hu, hv, hcap, hg, h1, h2, h3, h4, hi⟩ := ptr_row hR hb hy
            have hb' := of_at hb (by simp)
            rw [plOf_eq hps] at hrc
            have hvals := hrc.vals
            obtain ⟨henc, hbnd⟩ := RTy.puts_enc hy'
            have hpl : ps.length = ti.size := by rw [← hsz', plOf_eq hps]; simp
            have hmul : (i + 1) * rt.sz ≤ xs.length * rt.sz := Nat.mul_le_mul_right _ hi
            have hmul2 : xs.length * rt.sz ≤ cap * rt.sz := Nat.mul_le_mul_right _ h1
            rw [Nat.add_mul, Nat.one_mul] at hmul
            by_cases hne : ps = []
            · subst hne
              have hz0 : ti.size = 0 := by simpa using hpl.symm
              -- nothing is stored
              have hyv : yv = xs.getD i rt.zero := by simp [RTy.puts] at hy'; exact hy'.symm
              have hset : xs.set i yv = xs := by
                rw [hyv]
                apply List.ext_getElem?
                intro k
                rw [List.getElem?_set]
                split
                · rename_i hk; subst hk; exact (getD_of hi rt.zero).symm
                · rfl
              have hst : (Instr.storeAt t (a.eval y) (a.eval z)).run X.P w = .ok () w := by
                rw [hv]
                have hl : (a.eval z).cells.size = ti.size := by rw [hz0]; have := congrArg List.length hvals; simpa using this
                have hnil : (a.eval z).cells.toList = [] := by rw [hvals]; rfl
                simp only [Instr.storeAt, Instr.sureAddr, storeVar, Sem.run_bind, Sem.run_pure, Result.andThen_ok, run_sizeOf (hT t ti hti).size, hl, ne_eq, not_true_eq_false, if_false, hnil, storeCells]
              refine OpOk.skip (w' := w) (ρ' := ρ) (execOp_store ho hst) rfl ?_ ?_
              · show Rep X ρ (M.set b (.row rt (xs.set i yv))) w
                rw [hset, set_same hb']; exact hR
              · show Ext w ρ M w ρ (M.set b (.row rt (xs.set i yv)))
                rw [hset, set_same hb']; exact Ext.refl _ _ _
            · have hb2 := hbnd hne
              have hst := storeVar_run (hT t ti hti) (E := envOf ρ M) (off := i * rt.sz + off) hg hrc (by simp; omega) (by rw [h3]; omega)
              rw [← hv, hvals] at hst
              have hch := row_change (ys := xs.set i yv) (cur' := (setMany cur.toList (i * rt.sz + off) (ps.map PC.val)).toArray) hR hb' hu hcap hg h1 h2 (by simp [setMany_length, h3]) (by simp)
                (by simpa using set_take_vals hi (by simp; omega) h4 henc hb2)
              exact OpOk.skip (execOp_store ho hst) rfl hch.1 hch.2
          · cases h
        · cases h
      · cases h
  · cases h
/-! ### New variables -/
theorem alloc_old (w : World) (o : Obj) (k : Nat) (hk : k < w.heap.size) : (w.alloc o).heap[k]? = w.heap[k]? := by
  show (w.heap.push o)[k]? = _
  rw [Array.getElem?_push, if_neg (by omega)]
theorem newVar_run {X : Cx} {E : Env} (t : TypeId) (v : Value) (w : World) : (newVar t v).run X.P w = .ok ⟨w.heap.size, 0, none⟩ (w.alloc (.cells v.cells t)) := by
  simp [newVar, newRow]
theorem box_ok {X : Cx} {o : Oper} {M : Mem} {a : Act} {w : World} {ρ : Nat → Value} {p : Option Prop} {cs : List Cell} {v : Value} {t : TypeId} (hR : Rep X ρ M w) (hr : RelCs X (envOf ρ M) cs v.cells.toList)
    (h : (execOp a.eval o).run X.P w = .ok (.value (.pointer (some ⟨w.heap.size, 0, none⟩))) (w.alloc (.cells v.cells t))) : OpOk X o a w ρ M ⟨p, .one (.c (.ptr M.length 0 0)), M ++ [.cells cs]⟩ := by
  have hp := hR.push (w' := w.alloc (.cells v.cells t)) (u := .pointer (some ⟨w.heap.size, 0, none⟩)) (x := .cells cs) (fun k hk => Lw.alloc_old w _ k hk) (by simp) rfl rfl rfl
    ⟨w.heap.size, v.cells, t, rfl, heap_alloc_new w _, hr.to (env_to_push ρ M _ _)⟩ (fun g hg => by simp [blkOf] at hg; omega)
  refine OpOk.value h ?_ hp.1 hp.2
  show RelC X _ (.ptr M.length 0 0) _
  simp only [RelC, envOf_push_new ρ M _ (.cells cs) rfl]
  exact ⟨w.heap.size, rfl, rfl, trivial⟩
theorem okZ_rel {X : Cx} (E : Env) : ∀ {cs : List Cell}, okZ cs = true → RelCs X E cs (cs.map czero)
  | [], _ => trivial
  | c :: r, h => by
    cases c <;> simp only [okZ] at h <;> try cases h
    case pl p => exact ⟨rfl, okZ_rel E h⟩
    case nilp => exact ⟨rfl, okZ_rel E h⟩
    case es => exact ⟨⟨none, rfl⟩, okZ_rel E h⟩
theorem zero_of {X : Cx} {t : TypeId} {ti : TI} (hA : AgreeT X t ti) (h : ti.zero ≠ []) : ∃ z, (∀ w, (zeroValue t).run X.P w = .ok z w) ∧ ∀ E, RelCs X E ti.zero z.cells.toList := by
  obtain ⟨hk, z, hz, hc⟩ := hA.zero h
  refine ⟨z, fun w => ?_, fun E => by rw [hc]; exact okZ_rel E hk⟩
  cases hi : X.P.info? t with
  | none => rw [hi] at hz; cases hz
  | some i =>
    rw [hi] at hz
    have : i.zero = some z := by simpa using hz
    simp [zeroValue, typeInfo, hi, this]

/-! ### Fields and elements -/
theorem field_of {X : Cx} {t : TypeId} {ti : TI} (hA : AgreeT X t ti) {f : Nat} {fi : FI} (h : ti.flds[f]? = some fi) :
    ∃ (fs : Array Field) (fd : Field), X.P.underlying t = some (.struct fs) ∧ fs[f]? = some fd ∧ fd.offset = fi.off ∧ (X.P.info? fd.type).map (·.size) = some fi.sz ∧ 0 < fi.sz := by
  obtain ⟨fs, hd, hm, hp⟩ := hA.flds (by intro e; rw [e] at h; simp at h)
  have h1 : (ti.flds.map (fun x : FI => (x.off, some x.sz)))[f]? = some (fi.off, some fi.sz) := by simp [h]
  rw [← hm] at h1
  simp only [List.getElem?_map, Option.map_eq_some_iff] at h1
  obtain ⟨fd, hfd, he⟩ := h1
  refine ⟨fs, fd, hd, by rw [← Array.getElem?_toList]; exact hfd, (Prod.mk.inj he).1, (Prod.mk.inj he).2, ?_⟩
  have := List.all_eq_true.1 hp fi (List.mem_of_getElem? h)
  simpa using this
theorem run_fieldAt {P : Program} {t : TypeId} {fs : Array Field} {f n : Nat} {fd : Field} (hd : P.underlying t = some (.struct fs)) (hf : fs[f]? = some fd) (hs : (P.info? fd.type).map (·.size) = some n) (hn : 0 < n) (g o : Nat) (w : World) :
    (Instr.fieldAt t (.pointer (some ⟨g, o, none⟩)) f).run P w = .ok (.pointer (some ⟨g, o + fd.offset, none⟩)) w := by
  have hn' : n ≠ 0 := by omega
  simp only [Instr.fieldAt, Sem.run_bind, run_underlying hd, Result.andThen_ok, hf, Instr.sureAddr, Sem.run_pure, fieldPlace, run_sizeOf hs, if_neg hn', add_none]

theorem same_eq {t u : RTy} (h : t.same u = true) : t = u := by cases t <;> cases u <;> first | rfl | cases h
theorem cast_eq : ∀ {t u : RTy} {xs : List t.T} {ys : List u.T}, t.cast u xs = some ys → ∃ h : t = u, h ▸ xs = ys := by
  intro t u xs ys h
  cases t <;> cases u <;> first | (simp only [RTy.cast] at h; cases h; exact ⟨rfl, rfl⟩) | (simp [RTy.cast] at h)
theorem elem_of {X : Cx} {t : TypeId} {ti : TI} (hA : AgreeT X t ti) {rt : RTy} (h : ti.elem = some rt) :
    X.P.underlying t = some (.slice (X.eid rt)) ∧ ∃ i z, X.P.info? (X.eid rt) = some i ∧ i.size = rt.sz ∧ i.zero = some z ∧ z.cells.toList = (rt.enc rt.zero).map PC.val ∧ i.bytes ≤ 1000 := by
  obtain ⟨hd, z, b, hi, hz, hb⟩ := hA.elem rt h
  refine ⟨hd, ?_⟩
  cases hj : X.P.info? (X.eid rt) with
  | none => rw [hj] at hi; cases hi
  | some i =>
    rw [hj] at hi
    simp only [Option.map_some, Option.some.injEq, Prod.mk.injEq] at hi
    exact ⟨i, z, rfl, hi.1, hi.2.1, hz, by rw [hi.2.2]; exact hb⟩

theorem run_indexAt {P : Program} {t e : TypeId} {n : Nat} (hd : P.underlying t = some (.slice e)) (hs : (P.info? e).map (·.size) = some n) (k : IntKind) (i : Int) (ad : Addr) (m c : Nat) (w : World) (h0 : 0 ≤ i) (h1 : i < m) :
    (Instr.indexAt t (.slice (some ad) m c) (.int k i)).run P w = .ok (.pointer (some (ad.add (i.toNat * n)))) w := by
  simp only [Instr.indexAt, asIntOf, Sem.run_bind, Sem.run_pure, Result.andThen_ok, run_underlying hd]
  simp [h0, h1, run_sizeOf hs]
theorem intOf_rel {X : Cx} {E : Env} {x : AV} {n : Int} {v : Value} (h : intOf? x = some n) (hv : RelA X E x v) : ∃ k, v = .int k n := by
  unfold intOf? at h
  split at h
  · rename_i k m
    cases h
    exact ⟨k, hv⟩
  · cases h
theorem execOp_indexAddr {P : Program} {o : Oper} {t : TypeId} {x y : Operand} (ho : o.op = .indexAddr t x y) {ρ : Operand → Value} {w : World} {v : Value} (h : (Instr.indexAt t (ρ x) (ρ y)).run P w = .ok v w) : (execOp ρ o).run P w = .ok (.value v) w := by
  simp [execOp, ho, h]
theorem env_at_row {ρ : Nat → Value} {M : Mem} {b : Nat} {t : RTy} {xs : List t.T} (hb : M.at b = .row t xs) : envOf ρ M b = .ent (ρ b) (.row t xs.length) := by
  unfold envOf; rw [of_at hb (by simp)]; rfl
theorem env_at_hidR {ρ : Nat → Value} {M : Mem} {b : Nat} {t : RTy} {n : Nat} (hb : M.at b = .hidR t n) : envOf ρ M b = .ent (ρ b) (.row t n) := by
  unfold envOf; rw [of_at hb (by simp)]; rfl

theorem indexAddr_sound {X : Cx} {τ : Tys} (hT : Agree X τ) {o : Oper} {F : List AV} {M : Mem} {a : Act} {w : World} {ρ : Nat → Value} {x : OR} {t : TypeId} {y z : Operand} (ho : o.op = .indexAddr t y z)
    (h : aop τ o F M = some x) (hp : preOk x.pre) (hF : RelF X (envOf ρ M) F a.tmps.toList) (hR : Rep X ρ M w) : OpOk X o a w ρ M x := by
  unfold aop at h
  rw [ho] at h
  simp only at h
  have hy := oe_rel hF y
  have hz := oe_rel hF z
  split at h
  · rename_i ti i hti hi
    obtain ⟨k, hk⟩ := intOf_rel hi hz
    have hA := hT t ti hti
    split at h
    · rename_i rt b hel hoe
      rw [hoe] at hy
      obtain ⟨hd, j, zz, hj, hsz, _⟩ := elem_of hA hel
      have hs : (X.P.info? (X.eid rt)).map (·.size) = some rt.sz := by rw [hj]; simp [hsz]
      split at h
      · rename_i u xs hb
        cases hu : u.same rt with
        | false => rw [hu] at h; cases h
        | true =>
          rw [hu] at h; cases h
          have := same_eq hu; subst this
          obtain ⟨h0, h1⟩ := (hp : 0 ≤ i ∧ i < xs.length)
          simp only [RelA, RelV1, RelC, env_at_row hb] at hy
          obtain ⟨hyv, aa, mm, cc, hua⟩ := hy
          rcases hR.blk b _ (of_at hb (by simp)) with ⟨rfl, _⟩ | ⟨g, cap, cur, hub, hc, hg, r1, r2, r3, r4⟩
          · simp at h1; omega
          · refine OpOk.pure hR (v := .pointer (some ⟨g, i.toNat * u.sz + 0, none⟩)) (execOp_indexAddr ho ?_) ?_
            · rw [hyv, hub, hk, run_indexAt hd hs k i _ _ _ w h0 h1, add_none]; simp
            · show RelC X _ (.ptr b i.toNat 0) _
              simp only [RelC, env_at_row hb]
              exact ⟨g, xs.length, cap, hub, rfl, by omega⟩
      · rename_i u n hb
        cases hu : u.same rt with
        | false => rw [hu] at h; cases h
        | true =>
          rw [hu] at h; cases h
          have := same_eq hu; subst this
          obtain ⟨h0, h1⟩ := (hp : 0 ≤ i ∧ i < n)
          simp only [RelA, RelV1, RelC, env_at_hidR hb] at hy
          obtain ⟨hyv, aa, mm, cc, hua⟩ := hy
          rcases hR.blk b _ (of_at hb (by simp)) with ⟨rfl, _⟩ | ⟨g, cap, hub, hc, r1⟩
          · omega
          · refine OpOk.pure hR (v := .pointer (some ⟨g, i.toNat * u.sz + 0, none⟩)) (execOp_indexAddr ho ?_) ?_
            · rw [hyv, hub, hk, run_indexAt hd hs k i _ _ _ w h0 h1, add_none]; simp
            · show RelC X _ (.ptr b i.toNat 0) _
              simp only [RelC, env_at_hidR hb]
              exact ⟨g, n, cap, hub, rfl, by omega⟩
      · cases h
    · rename_i rt b lo len hel hoe
      rw [hoe] at hy
      obtain ⟨hd, j, zz, hj, hsz, _⟩ := elem_of hA hel
      have hs : (X.P.info? (X.eid rt)).map (·.size) = some rt.sz := by rw [hj]; simp [hsz]
      split at h
      · rename_i u xs hb
        cases hu : u.same rt with
        | false => rw [hu] at h; cases h
        | true =>
          rw [hu] at h; cases h
          have := same_eq hu; subst this
          obtain ⟨⟨h0, h1⟩, h2⟩ := (hp : (0 ≤ i ∧ i < len) ∧ lo + len ≤ xs.length)
          simp only [RelA, RelV1, RelC, env_at_row hb] at hy
          obtain ⟨aa, cap', a', hua, hyv, hle, ha0, ha1⟩ := hy
          rcases hR.blk b _ (of_at hb (by simp)) with ⟨rfl, _⟩ | ⟨g, cap, cur, hub, hc, hg, r1, r2, r3, r4⟩
          · simp at h2; omega
          · rw [hub] at hua
            obtain ⟨rfl, _, rfl⟩ : (some (⟨g, 0, none⟩ : Addr)) = aa ∧ xs.length = xs.length ∧ cap = cap' := by injection hua with e1 e2 e3; exact ⟨e1, rfl, e3⟩
            have ha := ha1 (by omega)
            subst ha
            refine OpOk.pure hR (v := .pointer (some ⟨g, (lo + i.toNat) * u.sz + 0, none⟩)) (execOp_indexAddr ho ?_) ?_
            · rw [hyv, hk]
              have := run_indexAt (P := X.P) hd hs k i ⟨g, lo * u.sz, none⟩ len (cap - lo) w h0 h1
              simp only [Option.map_some]
              rw [this, add_none, Nat.add_mul]; simp
            · show RelC X _ (.ptr b (lo + i.toNat) 0) _
              simp only [RelC, env_at_row hb]
              exact ⟨g, xs.length, cap, hub, rfl, by omega⟩
      · cases h
    · rename_i rt u xs hel hoe
      rw [hoe] at hy
      obtain ⟨hd, j, zz, hj, hsz, _⟩ := elem_of hA hel
      cases hu : u.same rt with
      | false => rw [hu] at h; cases h
      | true =>
        rw [hu] at h; cases h
        have := same_eq hu; subst this
        have hs : (X.P.info? (X.eid u)).map (·.size) = some u.sz := by rw [hj]; simp [hsz]
        obtain ⟨h0, h1⟩ := (hp : 0 ≤ i ∧ i < xs.length)
        obtain ⟨aa, cc, hyv, _, hcells⟩ := hy
        have hx := getD_of (show i.toNat < xs.length by omega) u.zero
        obtain ⟨g, o', rfl, hc⟩ := hcells _ _ hx
        refine OpOk.pure hR (v := .pointer (some ⟨g, o' + i.toNat * u.sz, none⟩)) (execOp_indexAddr ho ?_) ?_
        · rw [hyv, hk, run_indexAt hd hs k i _ _ _ w h0 h1, add_none]
        · refine ⟨g, _, rfl, fun j c hj => ?_⟩
          simp only [List.getElem?_map, Option.map_eq_some_iff] at hj
          obtain ⟨p, hp', rfl⟩ := hj
          exact ⟨p, rfl, by rw [Nat.add_assoc]; exact hc j p hp'⟩
    · cases h
  · cases h
end Lw
