/- The rest of the operations; all but calls of functions, together. -/
import Derived.Test.YtijcloeapcapiaaFw11
set_option linter.unusedVariables false
set_option linter.unusedSimpArgs false
namespace Lw
open Go

theorem bool_of {X : Cx} {E : Env} {b : Bool} {v : Value} (h : RelA X E (.one (.c (.pl (.bool b)))) v) : v = .bool b := h
theorem int_of {X : Cx} {E : Env} {k : IntKind} {n : Int} {v : Value} (h : RelA X E (.one (.c (.pl (.int k n)))) v) : v = .int k n := h

theorem move_sound {X : Cx} {τ : Tys} {o : Oper} {F : List AV} {M : Mem} {a : Act} {w : World} {ρ : Nat → Value} {x : OR} {y : Operand} (ho : o.op = .move y ∨ o.op = .assign y)
    (h : aop τ o F M = some x) (hF : RelF X (envOf ρ M) F a.tmps.toList) (hR : Rep X ρ M w) : OpOk X o a w ρ M x := by
  unfold aop at h
  rcases ho with ho | ho
  · rw [ho] at h; simp only at h; cases h
    exact OpOk.pure hR (by simp only [execOp, ho, Sem.run_pure]) (oe_rel hF y)
  · rw [ho] at h; simp only at h; cases h
    exact OpOk.pure hR (by simp only [execOp, ho, Sem.run_pure]) (oe_rel hF y)

theorem pick_sound {X : Cx} {τ : Tys} {o : Oper} {F : List AV} {M : Mem} {a : Act} {w : World} {ρ : Nat → Value} {x : OR} {c y z : Operand} (ho : o.op = .pick c y z)
    (h : aop τ o F M = some x) (hF : RelF X (envOf ρ M) F a.tmps.toList) (hR : Rep X ρ M w) : OpOk X o a w ρ M x := by
  unfold aop at h
  rw [ho] at h; simp only at h
  have hc := oe_rel hF c
  have hy := oe_rel hF y
  have hz := oe_rel hF z
  split at h
  · rename_i t ht
    rw [ht] at hc
    have hcv := bool_of hc
    split at h
    · rename_i p q hp hq
      rw [hp] at hy; rw [hq] at hz
      cases h
      refine OpOk.pure (v := .bool (cond t p q)) hR ?_ rfl
      simp only [execOp, ho, Sem.run_bind, hcv, bool_of hy, bool_of hz]
      cases t <;> simp [asBool]
    · cases h
  · cases h

theorem alloc_sound {X : Cx} {τ : Tys} (hT : Agree X τ) {o : Oper} {F : List AV} {M : Mem} {a : Act} {w : World} {ρ : Nat → Value} {x : OR} {t : TypeId} (ho : o.op = .alloc t)
    (h : aop τ o F M = some x) (hF : RelF X (envOf ρ M) F a.tmps.toList) (hR : Rep X ρ M w) : OpOk X o a w ρ M x := by
  unfold aop at h
  rw [ho] at h; simp only at h
  split at h
  · rename_i ti hti
    split at h
    · rename_i z zs hz
      cases h
      obtain ⟨v, hv, hr⟩ := zero_of (hT t ti hti) (by rw [hz]; simp)
      refine box_ok (v := v) (t := t) hR (by rw [← hz]; exact hr _) ?_
      simp only [execOp, ho, Sem.run_bind, Instr.alloc, hv, Result.andThen_ok, newVar_run (X := X) (E := fun _ => .out), Sem.run_pure]
    · cases h
  · cases h

theorem boxOp_sound {X : Cx} {τ : Tys} {o : Oper} {F : List AV} {M : Mem} {a : Act} {w : World} {ρ : Nat → Value} {x : OR} {t : TypeId} {y : Operand} (ho : o.op = .box t y)
    (h : aop τ o F M = some x) (hF : RelF X (envOf ρ M) F a.tmps.toList) (hR : Rep X ρ M w) : OpOk X o a w ρ M x := by
  unfold aop at h
  rw [ho] at h; simp only at h
  have hy := oe_rel hF y
  split at h
  · rename_i cs hcs
    cases h
    refine box_ok (v := a.eval y) (t := t) hR (cellsOf_rel hcs hy) ?_
    simp only [execOp, ho, Sem.run_bind, Instr.box, Result.andThen_ok, newVar_run (X := X) (E := fun _ => .out), Sem.run_pure]
  · cases h

theorem nilCheck_sound {X : Cx} {τ : Tys} {o : Oper} {F : List AV} {M : Mem} {a : Act} {w : World} {ρ : Nat → Value} {x : OR} {y : Operand} (ho : o.op = .nilCheck y)
    (h : aop τ o F M = some x) (hF : RelF X (envOf ρ M) F a.tmps.toList) (hR : Rep X ρ M w) : OpOk X o a w ρ M x := by
  unfold aop at h
  rw [ho] at h; simp only at h
  have hy := oe_rel hF y
  split at h
  · rename_i b i off hoe
    cases hl : live M b with
    | false => rw [hl] at h; cases h
    | true =>
      rw [hl] at h; cases h
      obtain ⟨ad, hv⟩ := isLivePtr_rel (X := X) (ρ := ρ) (p := .ptr b i off) hl (by rw [hoe] at hy; exact hy)
      refine OpOk.pure (v := a.eval y) hR ?_ hy
      simp only [execOp, ho, hv, Sem.run_pure]
  · rename_i cs hoe
    cases h
    have hy2 := hy
    rw [hoe] at hy2
    obtain ⟨g, off, hv, _⟩ := hy2
    refine OpOk.pure (v := a.eval y) hR ?_ hy
    simp only [execOp, ho, hv, Sem.run_pure]
  · cases h

theorem binOp_sound {X : Cx} {τ : Tys} (hT : Agree X τ) {o : Oper} {F : List AV} {M : Mem} {a : Act} {w : World} {ρ : Nat → Value} {x : OR} {op : BinOp} {t u : TypeId} {y z : Operand} (ho : o.op = .binOp op t y z u)
    (h : aop τ o F M = some x) (hp : preOk x.pre) (hF : RelF X (envOf ρ M) F a.tmps.toList) (hR : Rep X ρ M w) : OpOk X o a w ρ M x := by
  unfold aop at h
  rw [ho] at h; simp only at h
  split at h
  · rename_i p v hab
    cases h
    obtain ⟨c, rfl, hg, hb⟩ := abin_sound hT hab hp (oe_rel hF y) (oe_rel hF z) y z w
    refine OpOk.pure (v := c.val) hR ?_ rfl
    simp only [execOp, ho, Sem.run_bind, hg, hb, Result.andThen_ok, Sem.run_pure]
  · cases h

theorem unOp_sound {X : Cx} {τ : Tys} {o : Oper} {F : List AV} {M : Mem} {a : Act} {w : World} {ρ : Nat → Value} {x : OR} {op : UnOp} {t : TypeId} {y : Operand} (ho : o.op = .unOp op t y)
    (h : aop τ o F M = some x) (hF : RelF X (envOf ρ M) F a.tmps.toList) (hR : Rep X ρ M w) : OpOk X o a w ρ M x := by
  unfold aop at h
  rw [ho] at h; simp only at h
  have hy := oe_rel hF y
  split at h
  · rename_i b hoe
    cases h
    rw [hoe] at hy
    refine OpOk.pure (v := .bool (!b)) hR ?_ rfl
    simp only [execOp, ho, Sem.run_bind, bool_of hy, Op.unary, Result.andThen_ok, Sem.run_pure]
  · rename_i k n hoe
    cases h
    rw [hoe] at hy
    refine OpOk.pure (v := .int k (k.wrap (0 - n))) hR ?_ rfl
    simp only [execOp, ho, Sem.run_bind, int_of hy, Op.unary, Op.intArith, Result.andThen_ok, Sem.run_pure]
  · cases h

theorem convert_sound {X : Cx} {τ : Tys} (hT : Agree X τ) {o : Oper} {F : List AV} {M : Mem} {a : Act} {w : World} {ρ : Nat → Value} {x : OR} {s d : TypeId} {y : Operand} (ho : o.op = .convert s d y)
    (h : aop τ o F M = some x) (hF : RelF X (envOf ρ M) F a.tmps.toList) (hR : Rep X ρ M w) : OpOk X o a w ρ M x := by
  unfold aop at h
  rw [ho] at h; simp only at h
  have hy := oe_rel hF y
  split at h
  · rename_i ts td k n hts htd hoe
    rw [hoe] at hy
    split at h
    · rename_i kd hk
      cases h
      obtain ⟨ds, hds, _⟩ := (hT s ts hts).agg
      have hdd := (hT d td htd).ik kd hk
      refine OpOk.pure (v := .int kd (kd.wrap n)) hR ?_ rfl
      simp only [execOp, ho, Sem.run_bind, int_of hy, Go.convert, run_underlying hds, run_underlying hdd, Result.andThen_ok, Sem.run_pure, Conv.intToInt]
    · cases h
  · cases h

theorem v1sOf_arr {X : Cx} {E : Env} {F : List AV} {a : Act} (hF : RelF X E F a.tmps.toList) {xs : Array Operand} {vs : List V1} (h : v1sOf (xs.toList.map (oe F)) = some vs) : RelV1s X E vs (xs.map a.eval).toList :=
  v1sOf_rel h (map_eval hF xs)

theorem makeFunc_sound {X : Cx} {τ : Tys} {o : Oper} {F : List AV} {M : Mem} {a : Act} {w : World} {ρ : Nat → Value} {x : OR} {fn : Fn} {first caps : Array Operand} (ho : o.op = .makeFunc fn first caps)
    (h : aop τ o F M = some x) (hF : RelF X (envOf ρ M) F a.tmps.toList) (hR : Rep X ρ M w) : OpOk X o a w ρ M x := by
  unfold aop at h
  rw [ho] at h; simp only at h
  cases fn <;> simp only at h <;> try cases h
  case func f =>
    split at h
    · rename_i p q hp hq
      cases h
      refine OpOk.pure (v := .func (.func f) (first.map a.eval) (caps.map a.eval)) hR ?_ ⟨_, _, rfl, v1sOf_arr hF hp, v1sOf_arr hF hq⟩
      simp only [execOp, ho, Sem.run_bind, Instr.makeFunc, Result.andThen_ok, Sem.run_pure]
    · cases h

theorem fieldAddr_sound {X : Cx} {τ : Tys} (hT : Agree X τ) {o : Oper} {F : List AV} {M : Mem} {a : Act} {w : World} {ρ : Nat → Value} {x : OR} {t : TypeId} {y : Operand} {f : Nat} (ho : o.op = .fieldAddr t y f)
    (h : aop τ o F M = some x) (hF : RelF X (envOf ρ M) F a.tmps.toList) (hR : Rep X ρ M w) : OpOk X o a w ρ M x := by
  unfold aop at h
  rw [ho] at h; simp only at h
  have hy := oe_rel hF y
  split at h
  · rename_i ti hti
    split at h
    · rename_i fi b i off hfi hoe
      obtain ⟨fs, fd, hd, hfd, hoff, hs, hpos⟩ := field_of (hT t ti hti) hfi
      cases hlv : live M b with
      | false => rw [hlv] at h; cases h
      | true =>
      rw [hlv] at h
      cases h
      rw [hoe] at hy
      obtain ⟨s, he⟩ := live_of (ρ := ρ) hlv
      simp only [RelA, RelV1, RelC, he] at hy
      cases s with
      | cells n =>
        obtain ⟨g, hu, hv, hi⟩ := hy
        refine OpOk.pure (v := .pointer (some ⟨g, off + fi.off, none⟩)) hR ?_ ?_
        · simp only [execOp, ho, Sem.run_bind, hv, run_fieldAt hd hfd hs hpos, hoff, Result.andThen_ok, Sem.run_pure]
        · simp only [RelA, RelV1, RelC, he]
          exact ⟨g, hu, rfl, hi⟩
      | row rt n =>
        obtain ⟨g, m, c, hu, hv, hi⟩ := hy
        refine OpOk.pure (v := .pointer (some ⟨g, i * rt.sz + (off + fi.off), none⟩)) hR ?_ ?_
        · simp only [execOp, ho, Sem.run_bind, hv, run_fieldAt hd hfd hs hpos, hoff, Result.andThen_ok, Sem.run_pure, Nat.add_assoc]
        · simp only [RelA, RelV1, RelC, he]
          exact ⟨g, m, c, hu, rfl, hi⟩
    · rename_i fi cs hfi hoe
      obtain ⟨fs, fd, hd, hfd, hoff, hs, hpos⟩ := field_of (hT t ti hti) hfi
      cases h
      rw [hoe] at hy
      obtain ⟨g, off, hv, hc⟩ := hy
      refine OpOk.pure (v := .pointer (some ⟨g, off + fi.off, none⟩)) hR ?_ ⟨g, off + fi.off, rfl, fun j c hj => ?_⟩
      · simp only [execOp, ho, Sem.run_bind, hv, run_fieldAt hd hfd hs hpos, hoff, Result.andThen_ok, Sem.run_pure]
      · rw [List.getElem?_drop] at hj
        obtain ⟨p, hp, hw⟩ := hc _ c hj
        exact ⟨p, hp, by rw [Nat.add_assoc]; exact hw⟩
    · cases h
  · cases h

theorem extract_sound {X : Cx} {τ : Tys} {o : Oper} {F : List AV} {M : Mem} {a : Act} {w : World} {ρ : Nat → Value} {x : OR} {y : Operand} {i : Nat} (ho : o.op = .extract y i)
    (h : aop τ o F M = some x) (hF : RelF X (envOf ρ M) F a.tmps.toList) (hR : Rep X ρ M w) : OpOk X o a w ρ M x := by
  unfold aop at h
  rw [ho] at h; simp only at h
  have hy := oe_rel hF y
  split at h
  · rename_i xs hoe
    rw [hoe] at hy
    obtain ⟨vs, hv, hr⟩ := hy
    split at h
    · rename_i z hz
      cases h
      obtain ⟨v, hvi, hrv⟩ := hr.get i z hz
      refine OpOk.pure (v := v) hR ?_ hrv
      rw [Array.getElem?_toList] at hvi
      simp only [execOp, ho, Sem.run_bind, hv, Instr.extract, hvi, Result.andThen_ok, Sem.run_pure]
    · cases h
  · cases h

theorem makeSlice_sound {X : Cx} {τ : Tys} (hT : Agree X τ) {o : Oper} {F : List AV} {M : Mem} {a : Act} {w : World} {ρ : Nat → Value} {x : OR} {t : TypeId} {y z : Operand} (ho : o.op = .makeSlice t y z)
    (h : aop τ o F M = some x) (hp : preOk x.pre) (hF : RelF X (envOf ρ M) F a.tmps.toList) (hR : Rep X ρ M w) : OpOk X o a w ρ M x := by
  unfold aop at h
  rw [ho] at h; simp only at h
  have hy := oe_rel hF y
  have hz := oe_rel hF z
  split at h
  · rename_i ti n m hti hn hm
    obtain ⟨ky, hyv⟩ := intOf_rel hn hy
    obtain ⟨kz, hzv⟩ := intOf_rel hm hz
    split at h
    · rename_i rt hel
      obtain ⟨hd, i, zv, hi, hsz, hzz, hzc, hby⟩ := elem_of (hT t ti hti) hel
      cases h
      obtain ⟨⟨h0, h1⟩, rfl⟩ := (hp : (0 ≤ n ∧ n ≤ 1048576) ∧ m = n)
      have hrun := run_make (P := X.P) w t (X.eid rt) i zv hd hi hzz ky kz m m h0 (Int.le_refl _)
        (by
          have h2 : (i.bytes : Int) ≤ 1000 := Int.ofNat_le.2 hby
          have h3 := Int.mul_le_mul h2 h1 h0 (by omega)
          omega) (by omega)
      have hlz : zv.cells.size = rt.sz := by have := congrArg List.length hzc; simpa [RTy.enc_length] using this
      have hmade : madeCells zv.cells (m.toNat * i.size) = Builtin.zeroCells zv.cells m.toNat := by
        simp [madeCells, Builtin.zeroCells, hlz, hsz]
      rw [hmade] at hrun
      have hzl := zeroCells_vals hzc m.toNat
      have hlen : (List.replicate m.toNat rt.zero).length = m.toNat := by simp
      refine row_ok (u := .slice (some ⟨w.heap.size, 0, none⟩) m.toNat m.toNat) (w' := w.alloc (.cells (Builtin.zeroCells zv.cells m.toNat) (X.eid rt))) hR ?_ (fun k hk => Lw.alloc_old w _ k hk) (by simp) rfl rfl rfl (fun E => ?_) (fun g hg => ?_)
      · simp only [execOp, ho, Sem.run_bind, hyv, hzv, hrun, Result.andThen_ok, Sem.run_pure]
      · have hb := repB_new (X := X) (E := E) (w := w.alloc (.cells (Builtin.zeroCells zv.cells m.toNat) (X.eid rt))) (t := rt) (xs := List.replicate m.toNat rt.zero) (g := w.heap.size) (cap := m.toNat) (cur := Builtin.zeroCells zv.cells m.toNat)
          (heap_alloc_new w _) (by rw [hlen]; exact Nat.le_refl _) (by have : maxLen = 9223372036854775807 := rfl; omega) (by simp [Builtin.zeroCells, hlz]) (by rw [hzl, hlen]; exact List.take_of_length_le (by rw [vals_length, hlen]; exact Nat.le_refl _))
        rw [hlen] at hb
        exact hb
      · cases hmm : m.toNat with
        | zero => rw [hmm] at hg; simp [blkOf] at hg
        | succ q => rw [hmm] at hg; simp [blkOf] at hg; omega
    · cases h
  · cases h

theorem builtin_sound {X : Cx} {τ : Tys} (hT : Agree X τ) {o : Oper} {F : List AV} {M : Mem} {a : Act} {w : World} {ρ : Nat → Value} {x : OR} {c : Go.Call} {b : Builtin} (ho : o.op = .call c) (hc : c.callee = .builtin b)
    (h : abuiltin τ F M b c.argTypes.toList (c.args.toList.map (oe F)) = some x) (hp : preOk x.pre) (hF : RelF X (envOf ρ M) F a.tmps.toList) (hR : Rep X ρ M w) : OpOk X o a w ρ M x := by
  generalize hargs : c.args.toList.map (oe F) = as at h
  generalize htys : c.argTypes.toList = ts at h
  unfold abuiltin at h
  split at h
  · -- len
    rename_i y
    obtain ⟨v, hv, hr⟩ := args1 hF hargs
    split at h
    · rename_i t tr
      have h0 := list1 htys
      split at h
      · rename_i ti hti
        have hA := hT t ti hti
        split at h
        · rename_i rt hel
          split at h
          · rename_i n hn
            cases h
            obtain ⟨ad, cc, rfl⟩ := lenOf_rel hR hn hr
            refine OpOk.pure (v := .int .i64 n) hR (execOp_builtin ho hc ?_) rfl
            rw [hv]
            simp [builtin, Builtin.len_, h0, run_underlying (elem_of hA hel).1, goInt]
          · cases h
        · split at h
          · rename_i s
            cases hst : ti.isStr with
            | false => rw [hst] at h; cases h
            | true =>
              rw [hst] at h; cases h
              have : v = .string s := hr
              subst this
              refine OpOk.pure (v := .int .i64 s.size) hR (execOp_builtin ho hc ?_) rfl
              rw [hv]
              simp [builtin, Builtin.len_, h0, run_underlying (hA.isStr hst), goInt]
          · cases h
      · cases h
    · cases h
  · -- min
    rename_i k y r
    split at h
    · rename_i n hn
      cases h
      have hm := map_eval hF c.args
      rw [hargs] at hm
      cases hvs : (c.args.map a.eval).toList with
      | nil => rw [hvs] at hm; exact hm.elim
      | cons v vs =>
        rw [hvs] at hm
        have hv0 := int_of hm.1
        subst hv0
        have hf := foldMM_run (P := X.P) (w := w) false hn hm.2
        simp only [Bool.false_eq_true, if_false] at hf
        refine OpOk.pure (v := .int k n) hR (execOp_builtin ho hc ?_) rfl
        simp only [builtin, Builtin.min_, hvs, Sem.run_bind, hf, Result.andThen_ok, Sem.run_pure]
    · cases h
  · -- max
    rename_i k y r
    split at h
    · rename_i n hn
      cases h
      have hm := map_eval hF c.args
      rw [hargs] at hm
      cases hvs : (c.args.map a.eval).toList with
      | nil => rw [hvs] at hm; exact hm.elim
      | cons v vs =>
        rw [hvs] at hm
        have hv0 := int_of hm.1
        subst hv0
        have hf := foldMM_run (P := X.P) (w := w) true hn hm.2
        simp only [if_true] at hf
        refine OpOk.pure (v := .int k n) hR (execOp_builtin ho hc ?_) rfl
        simp only [builtin, Builtin.max_, hvs, Sem.run_bind, hf, Result.andThen_ok, Sem.run_pure]
    · cases h
  · -- append, nothing there
    split at h
    · rename_i rt ht
      split at h
      · rename_i ys hs
        cases h
        subst htys
        exact append_es_sound hT ho hc hargs ht hs hp hF hR
      · cases h
    · cases h
  · split at h
    · rename_i rt ht
      split at h
      · rename_i zs ys hz hs
        cases h
        subst htys
        exact append_row_sound hT ho hc hargs ht hz hs hp hF hR
      · cases h
    · cases h
  · rename_i b k b' j m
    split at h
    · rename_i rt ht
      split at h
      · rename_i zs ys hz hs
        subst htys
        cases hb : Nat.beq b b' with
        | false => rw [hb] at h; cases h
        | true =>
          rw [hb] at h
          cases h
          have := Nat.eq_of_beq_eq_true hb
          subst this
          exact append_sub_sound hT ho hc hargs ht hz hs hp hF hR
      · cases h
    · cases h
  · -- copy
    split at h
    · rename_i t tr
      split at h
      · rename_i ti hti
        split at h
        · rename_i rt hel
          split at h
          · rename_i b zs lo len ys hd hs
            cases h
            exact copy_sound hT ho hc hargs htys hti hel hd hs hp hF hR
          · cases h
        · cases h
      · cases h
    · cases h
  · split at h
    · rename_i t tr
      split at h
      · rename_i ti hti
        split at h
        · rename_i rt hel
          split at h
          · rename_i b zs lo len hd
            cases h
            exact clear_sound hT ho hc hargs htys hti hel hd hp hF hR
          · cases h
        · cases h
      · cases h
    · cases h
  · cases h

theorem field_sound {X : Cx} {τ : Tys} (hT : Agree X τ) {o : Oper} {F : List AV} {M : Mem} {a : Act} {w : World} {ρ : Nat → Value} {x : OR} {t : TypeId} {y : Operand} {f : Nat} (ho : o.op = .field t y f)
    (h : aop τ o F M = some x) (hF : RelF X (envOf ρ M) F a.tmps.toList) (hR : Rep X ρ M w) : OpOk X o a w ρ M x := by
  unfold aop at h
  rw [ho] at h; simp only at h
  have hy := oe_rel hF y
  split at h
  · rename_i ti hti
    split at h
    · rename_i fi cs hfi hoe
      have hA := hT t ti hti
      obtain ⟨fs, fd, hd, hfd, hoff, hs, hpos⟩ := field_of hA hfi
      have hag := hA.fagg fs hd (by intro e; rw [e] at hfi; simp at hfi)
      have hag1 : (ti.flds.map (fun x : FI => some x.agg))[f]? = some (some fi.agg) := by simp [hfi]
      rw [← hag] at hag1
      simp only [List.getElem?_map, Array.getElem?_toList, hfd, Option.map_some, Option.some.injEq] at hag1
      cases hle : Nat.ble (fi.off + fi.sz) cs.length with
      | false => rw [hle] at h; cases h
      | true =>
      rw [hle] at h
      have hle := Nat.le_of_ble_eq_true hle
      simp only [cond_true] at h
      rw [hoe] at hy
      obtain ⟨us, hv, hcs⟩ := (hy : ∃ us : Array Value, a.eval y = .agg us ∧ RelCs X _ cs us.toList)
      have hpart : RelCs X (envOf ρ M) ((cs.drop fi.off).take fi.sz) ((us.toList.drop fi.off).take fi.sz) := (hcs.drop fi.off).take fi.sz
      obtain ⟨d, hdd, hda⟩ : ∃ d, X.P.underlying fd.type = some d ∧ aggD d = fi.agg := by
        cases hu : X.P.underlying fd.type with
        | none => rw [hu] at hag1; cases hag1
        | some d => rw [hu] at hag1; exact ⟨d, rfl, by simpa using hag1⟩
      obtain ⟨i, hi, hsz⟩ : ∃ i, X.P.info? fd.type = some i ∧ i.size = fi.sz := by
        cases hu : X.P.info? fd.type with
        | none => rw [hu] at hs; cases hs
        | some i => rw [hu] at hs; exact ⟨i, rfl, by simpa using hs⟩
      cases hfa : fi.agg with
      | true =>
        rw [hfa] at h hda
        cases h
        refine OpOk.pure (v := .agg (us.extract fi.off (fi.off + fi.sz))) hR ?_ ⟨_, rfl, ?_⟩
        · simp only [execOp, ho, Sem.run_bind, Instr.field, run_underlying hd, Result.andThen_ok, hfd, hv, asAgg, Sem.run_pure, part, isAgg, run_underlying hdd]
          cases d <;> simp only [aggD, Bool.false_eq_true] at hda <;> simp [run_sizeOf hs, hoff]
        · rw [Array.toList_extract]
          simpa [List.extract] using hpart
      | false =>
        rw [hfa] at h hda
        cases hc : (cs.drop fi.off).take fi.sz with
        | nil => rw [hc] at h; cases h
        | cons c r =>
          rw [hc] at h hpart
          cases r with
          | cons c' r => cases h
          | nil =>
            cases h
            have hu : ∃ u, us[fi.off]? = some u ∧ RelC X (envOf ρ M) c u := by
              cases hul : (us.toList.drop fi.off).take fi.sz with
              | nil => rw [hul] at hpart; exact hpart.elim
              | cons u ur =>
                rw [hul] at hpart
                refine ⟨u, ?_, hpart.1⟩
                have h0 : ((us.toList.drop fi.off).take fi.sz)[0]? = some u := by rw [hul]; rfl
                rw [List.getElem?_take, List.getElem?_drop] at h0
                split at h0
                · rw [← Array.getElem?_toList]; exact h0
                · rename_i hz; exact absurd hpos hz
            obtain ⟨u, hu, hru⟩ := hu
            refine OpOk.pure (v := u) hR ?_ hru
            simp only [execOp, ho, Sem.run_bind, Instr.field, run_underlying hd, Result.andThen_ok, hfd, hv, asAgg, Sem.run_pure, part, isAgg, run_underlying hdd]
            cases d <;> simp only [aggD, Bool.true_eq_false] at hda <;> simp [hoff, hu]
    · cases h
  · cases h

theorem aop_sound {X : Cx} {τ : Tys} (hT : Agree X τ) {o : Oper} {F : List AV} {M : Mem} {a : Act} {w : World} {ρ : Nat → Value} {x : OR}
    (h : aop τ o F M = some x) (hp : preOk x.pre) (hF : RelF X (envOf ρ M) F a.tmps.toList) (hR : Rep X ρ M w) : OpOk X o a w ρ M x := by
  cases ho : o.op
  case move y => exact move_sound (.inl ho) h hF hR
  case assign y => exact move_sound (.inr ho) h hF hR
  case pick c y z => exact pick_sound ho h hF hR
  case alloc t => exact alloc_sound hT ho h hF hR
  case box t y => exact boxOp_sound ho h hF hR
  case build t ps => exact build_sound hT ho h hF hR
  case buildSlice t n ps => exact buildSlice_sound hT ho h hF hR
  case load t y => exact load_sound hT ho h hF hR
  case store t y z => exact store_sound hT ho h hF hR
  case nilCheck y => exact nilCheck_sound ho h hF hR
  case binOp op t y z u => exact binOp_sound hT ho h hp hF hR
  case unOp op t y => exact unOp_sound ho h hF hR
  case convert s d y => exact convert_sound hT ho h hF hR
  case makeFunc fn p q => exact makeFunc_sound ho h hF hR
  case fieldAddr t y f => exact fieldAddr_sound hT ho h hF hR
  case field t y f => exact field_sound hT ho h hF hR
  case indexAddr t y z => exact indexAddr_sound hT ho h hp hF hR
  case extract y i => exact extract_sound ho h hF hR
  case slice t y lo hi mx => exact slice_sound hT ho h hp hF hR
  case makeSlice t y z => exact makeSlice_sound hT ho h hp hF hR
  case call c =>
    unfold aop at h
    rw [ho] at h
    simp only at h
    split at h
    · rename_i b hc
      exact builtin_sound hT ho hc h hp hF hR
    · cases h
  all_goals (unfold aop at h; rw [ho] at h; simp only at h; cases h)
end Lw
