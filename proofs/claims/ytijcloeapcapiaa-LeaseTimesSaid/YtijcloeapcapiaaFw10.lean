/- Builtins; all abstract operations but calls, together. -/
import Derived.Test.YtijcloeapcapiaaFw9
set_option linter.unusedVariables false
set_option linter.unusedSimpArgs false
namespace Lw
open Go

/-! ### 1. A call of a builtin -/
theorem execOp_builtin {P : Program} {o : Oper} {c : Go.Call} {b : Builtin} (ho : o.op = .call c) (hc : c.callee = .builtin b) {ρ : Operand → Value} {w w' : World} {v : Value}
    (h : (builtin b c.argTypes o.type (c.args.map fun | .const _ => true | _ => false) (c.args.map ρ)).run P w = .ok (.value v) w') : (execOp ρ o).run P w = .ok (.value v) w' := by
  simp only [execOp, ho, resolve, hc, Sem.run_bind, Sem.run_pure, Result.andThen_ok, invoke]
  exact h

theorem args1 {X : Cx} {E : Env} {F : List AV} {a : Act} (hF : RelF X E F a.tmps.toList) {args : Array Operand} {x : AV} (h : args.toList.map (oe F) = [x]) : ∃ v, args.map a.eval = #[v] ∧ RelA X E x v := by
  have hm := map_eval hF args
  rw [h] at hm
  cases hv : (args.map a.eval).toList with
  | nil => rw [hv] at hm; exact hm.elim
  | cons v r =>
    rw [hv] at hm
    cases r with
    | nil => exact ⟨v, by apply Array.ext'; exact hv, hm.1⟩
    | cons _ _ => exact hm.2.elim
theorem args2 {X : Cx} {E : Env} {F : List AV} {a : Act} (hF : RelF X E F a.tmps.toList) {args : Array Operand} {x y : AV} (h : args.toList.map (oe F) = [x, y]) : ∃ u v, args.map a.eval = #[u, v] ∧ RelA X E x u ∧ RelA X E y v := by
  have hm := map_eval hF args
  rw [h] at hm
  cases hv : (args.map a.eval).toList with
  | nil => rw [hv] at hm; exact hm.elim
  | cons u r =>
    rw [hv] at hm
    cases r with
    | nil => exact hm.2.elim
    | cons v s =>
      cases s with
      | nil => exact ⟨u, v, by apply Array.ext'; exact hv, hm.1, hm.2.1⟩
      | cons _ _ => exact hm.2.2.elim
theorem list1 {α : Type} {xs : Array α} {a : α} {r : List α} (h : xs.toList = a :: r) : xs[0]? = some a := by rw [← Array.getElem?_toList, h]; rfl

theorem foldMM_run {X : Cx} {E : Env} {P : Program} {w : World} (mx : Bool) : ∀ {k : IntKind} {x n : Int} {as : List AV} {vs : List Value}, foldMM mx k x as = some n → RelF X E as vs →
    (vs.foldlM (if mx then Builtin.max2 else Builtin.min2) (.int k x) : Sem Value).run P w = .ok (.int k n) w
  | k, x, n, [], [], h, _ => by simp [foldMM] at h; subst h; rfl
  | k, x, n, a :: r, v :: s, h, hr => by
    unfold foldMM at h
    split at h
    · rename_i heq; cases heq
    · rename_i j y r' heq
      cases heq
      cases hk : kEq j k with
      | false => rw [hk] at h; cases h
      | true =>
        rw [hk] at h
        have := kEq_eq hk
        subst this
        simp only [cond_true] at h
        have hv : v = .int j y := hr.1
        subst hv
        have ih := foldMM_run (X := X) (E := E) (P := P) (w := w) mx h hr.2
        rw [List.foldlM_cons]
        cases mx
        · simp only [Bool.false_eq_true, if_false] at ih ⊢
          simp only [Sem.run_bind, Builtin.min2, Sem.run_pure, Result.andThen_ok]
          exact ih
        · simp only [if_true] at ih ⊢
          simp only [Sem.run_bind, Builtin.max2, Sem.run_pure, Result.andThen_ok]
          exact ih
    · cases h
  | _, _, _, [], _ :: _, _, hr => hr.elim
  | _, _, _, _ :: _, [], _, hr => hr.elim

/-! ### 2. Rows that are written in parts -/
theorem splice_length {α : Type} {xs ys : List α} {lo : Nat} (h : lo + ys.length ≤ xs.length) : (splice xs lo ys).length = xs.length := by
  simp [splice]; omega
theorem splice_vals {t : RTy} {xs ys : List t.T} {lo : Nat} (h : lo + ys.length ≤ xs.length) : vals t (splice xs lo ys) = (vals t xs).take (lo * t.sz) ++ vals t ys ++ (vals t xs).drop (lo * t.sz + ys.length * t.sz) := by
  rw [splice, vals_append, vals_append, vals_take, ← Nat.add_mul, vals_drop]
theorem splice_take {t : RTy} {xs ys : List t.T} {cur : List Value} {lo : Nat} (h : lo + ys.length ≤ xs.length) (hcur : xs.length * t.sz ≤ cur.length) (h4 : cur.take (xs.length * t.sz) = vals t xs) :
    (setMany cur (lo * t.sz) (vals t ys)).take ((splice xs lo ys).length * t.sz) = vals t (splice xs lo ys) := by
  have hm : (lo + ys.length) * t.sz ≤ xs.length * t.sz := Nat.mul_le_mul_right _ h
  rw [Nat.add_mul] at hm
  rw [splice_length h, setMany_eq _ _ _ (by rw [vals_length]; omega), splice_vals h, vals_length, ← h4]
  apply List.ext_getElem?
  intro k
  have hl1 : (cur.take (lo * t.sz)).length = lo * t.sz := by rw [List.length_take]; omega
  have hvl := vals_length t ys
  have ht : (cur.take (xs.length * t.sz)).take (lo * t.sz) = cur.take (lo * t.sz) := by rw [List.take_take]; congr 1; omega
  rw [ht]
  have hAl : (cur.take (lo * t.sz) ++ vals t ys).length = lo * t.sz + ys.length * t.sz := by rw [List.length_append, hl1, hvl]
  generalize cur.take (lo * t.sz) ++ vals t ys = A at hAl ⊢
  by_cases hk : k < xs.length * t.sz
  · rw [List.getElem?_take, if_pos hk]
    by_cases h1 : k < lo * t.sz + ys.length * t.sz
    · rw [List.getElem?_append_left (by omega), List.getElem?_append_left (by omega)]
    · rw [List.getElem?_append_right (by omega), List.getElem?_append_right (by omega), List.getElem?_drop, List.getElem?_drop, List.getElem?_take, if_pos (by omega)]
  · rw [List.getElem?_take, if_neg hk]
    symm
    apply List.getElem?_eq_none
    simp only [List.length_append, hAl, List.length_drop, List.length_take]
    omega

theorem dstOf_rel {X : Cx} {ρ : Nat → Value} {M : Mem} {w : World} {t : RTy} {x : AV} {b lo len : Nat} {zs : List t.T} {v : Value} (hR : Rep X ρ M w) (h : dstOf M t x = some (b, zs, lo, len)) (hle : lo + len ≤ zs.length) (hv : RelA X (envOf ρ M) x v) :
    M[b]? = some (.row t zs) ∧ ∃ ad c, v = .slice ad len c ∧ (0 < len → ∃ g cap cur, ad = some ⟨g, lo * t.sz, none⟩ ∧ ρ b = .slice (some ⟨g, 0, none⟩) zs.length cap ∧ 0 < cap ∧ w.heap[g]? = some (.cells cur (X.eid t) (0, 0)) ∧ zs.length ≤ cap ∧ cap ≤ maxLen ∧
      cur.size = cap * t.sz ∧ cur.toList.take (zs.length * t.sz) = vals t zs) := by
  unfold dstOf at h
  split at h
  · rename_i b'
    split at h
    · rename_i u xs hb
      cases hc : u.cast t xs with
      | none => rw [hc] at h; cases h
      | some ys =>
        rw [hc] at h
        obtain ⟨rfl, hc'⟩ := cast_eq hc
        simp only at hc'
        subst hc'
        simp only [Option.map_some, Option.some.injEq, Prod.mk.injEq] at h
        obtain ⟨rfl, rfl, rfl, rfl⟩ := h
        refine ⟨of_at hb (by simp), ?_⟩
        simp only [RelA, RelV1, RelC, env_at_row hb] at hv
        obtain ⟨rfl, _⟩ := hv
        rcases hR.blk b' _ (of_at hb (by simp)) with ⟨rfl, ad, hu⟩ | ⟨g, cap, cur, hu, hc, hg, h1, h2, h3, h4⟩
        · exact ⟨ad, 0, hu, fun hp => absurd hp (by simp)⟩
        · exact ⟨_, _, hu, fun _ => ⟨g, cap, cur, by simp, hu, hc, hg, h1, h2, h3, h4⟩⟩
    · cases h
  · rename_i b' lo' len'
    split at h
    · rename_i u xs hb
      cases hc : u.cast t xs with
      | none => rw [hc] at h; cases h
      | some ys =>
        rw [hc] at h
        obtain ⟨rfl, hc'⟩ := cast_eq hc
        simp only at hc'
        subst hc'
        simp only [Option.map_some, Option.some.injEq, Prod.mk.injEq] at h
        obtain ⟨rfl, rfl, rfl, rfl⟩ := h
        refine ⟨of_at hb (by simp), ?_⟩
        simp only [RelA, RelV1, RelC, env_at_row hb] at hv
        obtain ⟨aa, cap', a', hua, hyv, hle', ha0, ha1⟩ := hv
        refine ⟨a', _, hyv, fun hp => ?_⟩
        rcases hR.blk b' _ (of_at hb (by simp)) with ⟨rfl, ad, hu⟩ | ⟨g, cap, cur, hu, hc, hg, h1, h2, h3, h4⟩
        · simp at hle; omega
        · rw [hu] at hua
          have hg' : some (⟨g, 0, none⟩ : Addr) = aa := by injection hua
          subst hg'
          exact ⟨g, cap, cur, ha1 hp, hu, hc, hg, h1, h2, h3, h4⟩
    · cases h
  · cases h

/-- Values stored into a part of a row. -/
theorem store_part {X : Cx} {ρ : Nat → Value} {M : Mem} {w : World} {t : RTy} {b lo : Nat} {zs ys : List t.T} {g cap : Nat} {cur : Array Value} (hR : Rep X ρ M w) (hb : M[b]? = some (.row t zs)) (hle : lo + ys.length ≤ zs.length)
    (hu : ρ b = .slice (some ⟨g, 0, none⟩) zs.length cap) (hc : 0 < cap) (hg : w.heap[g]? = some (.cells cur (X.eid t) (0, 0))) (h1 : zs.length ≤ cap) (h2 : cap ≤ maxLen) (h3 : cur.size = cap * t.sz) (h4 : cur.toList.take (zs.length * t.sz) = vals t zs) :
    ∃ w', (storeCells ⟨g, lo * t.sz, none⟩ (vals t ys)).run X.P w = .ok () w' ∧ Rep X ρ (M.set b (.row t (splice zs lo ys))) w' ∧ Ext w ρ M w' ρ (M.set b (.row t (splice zs lo ys))) := by
  have hm : (lo + ys.length) * t.sz ≤ zs.length * t.sz := Nat.mul_le_mul_right _ hle
  have hm2 : zs.length * t.sz ≤ cap * t.sz := Nat.mul_le_mul_right _ h1
  rw [Nat.add_mul] at hm
  have hvl := vals_length t ys
  have hst := run_storeCells_at (P := X.P) g (lo * t.sz) (X.eid t) (vals t ys) 0 cur w hg (by rw [hvl]; omega) (fun v hv => by
    obtain ⟨l, hl, hv⟩ := List.mem_flatten.1 hv
    obtain ⟨x, _, rfl⟩ := List.mem_map.1 hl
    obtain ⟨p, _, rfl⟩ := List.mem_map.1 hv
    exact p.val_one)
  simp only [Nat.add_zero] at hst
  rw [← setMany_eq _ _ _ (by rw [hvl]; simp; omega)] at hst
  refine ⟨_, hst, ?_⟩
  exact row_change (ys := splice zs lo ys) (cur' := (setMany cur.toList (lo * t.sz) (vals t ys)).toArray) hR hb hu hc hg h1 h2 (by simp [setMany_length, h3]) (splice_length hle) (by simpa using splice_take hle (by simp; omega) h4)
end Lw
