/- The abstract machine (calls, code). -/
import Derived.Test.YtjgmkpidiaojkaaGreatFw9
import Derived.Deep.LoopGhost
import Derived.Laws.Cover3
/- Builtins; all abstract operations but calls, together. -/
set_option linter.unusedVariables false
set_option linter.unusedSimpArgs false
namespace Lw
open Go

/-! ### 1. A call of a builtin -/
theorem execOp_builtin {P : Program} {o : Oper} {c : Go.Call} {b : Builtin} (ho : o.op = .call c) (hc : c.callee = .builtin b) {ρ : Operand → Value} {w w' : World} {v : Value}
    (h : (builtin b c.argTypes o.type (c.args.map fun | .const _ => true | _ => false) (c.args.map ρ)).run P w = .ok (.value v) w') : (execOp ρ o).run P w = .ok (.value v) w' := by
  simp only [execOp, ho, resolve, hc, Sem.run_bind, Sem.run_pure, Result.andThen_ok, invoke]
  exact h

theorem args1 {X : Cx} {E : Env} {F : List AV} {a : Act} (hF : RelF X E F a.tmps.toList) {args : Array Operand} {x : AV} (h : args.toList.map (oe F) = [x]) : ∃ v, args.map a.eval = #[v] ∧ RelA X E x v := by
  have hm := map_eval hF args
  rw [h] at hm
  cases hv : (args.map a.eval).toList with
  | nil => rw [hv] at hm; exact hm.elim
  | cons v r =>
    rw [hv] at hm
    cases r with
    | nil => exact ⟨v, by apply Array.ext'; exact hv, hm.1⟩
    | cons _ _ => exact hm.2.elim
theorem args2 {X : Cx} {E : Env} {F : List AV} {a : Act} (hF : RelF X E F a.tmps.toList) {args : Array Operand} {x y : AV} (h : args.toList.map (oe F) = [x, y]) : ∃ u v, args.map a.eval = #[u, v] ∧ RelA X E x u ∧ RelA X E y v := by
  have hm := map_eval hF args
  rw [h] at hm
  cases hv : (args.map a.eval).toList with
  | nil => rw [hv] at hm; exact hm.elim
  | cons u r =>
    rw [hv] at hm
    cases r with
    | nil => exact hm.2.elim
    | cons v s =>
      cases s with
      | nil => exact ⟨u, v, by apply Array.ext'; exact hv, hm.1, hm.2.1⟩
      | cons _ _ => exact hm.2.2.elim
theorem list1 {α : Type} {xs : Array α} {a : α} {r : List α} (h : xs.toList = a :: r) : xs[0]? = some a := by rw [← Array.getElem?_toList, h]; rfl

theorem foldMM_run {X : Cx} {E : Env} {P : Program} {w : World} (mx : Bool) : ∀ {k : IntKind} {x n : Int} {as : List AV} {vs : List Value}, foldMM mx k x as = some n → RelF X E as vs →
    (vs.foldlM (if mx then Builtin.max2 else Builtin.min2) (.int k x) : Sem Value).run P w = .ok (.int k n) w
  | k, x, n, [], [], h, _ => by simp [foldMM] at h; subst h; rfl
  | k, x, n, a :: r, v :: s, h, hr => by
    unfold foldMM at h
    split at h
    · rename_i heq; cases heq
    · rename_i j y r' heq
      cases heq
      cases hk : kEq j k with
      | false => rw [hk] at h; cases h
      | true =>
        rw [hk] at h
        have := kEq_eq hk
        subst this
        simp only [cond_true] at h
        have hv : v = .int j y := hr.1
        subst hv
        have ih := foldMM_run (X := X) (E := E) (P := P) (w := w) mx h hr.2
        rw [List.foldlM_cons]
        cases mx
        · simp only [Bool.false_eq_true, if_false] at ih ⊢
          simp only [Sem.run_bind, Builtin.min2, Sem.run_pure, Result.andThen_ok]
          exact ih
        · simp only [if_true] at ih ⊢
          simp only [Sem.run_bind, Builtin.max2, Sem.run_pure, Result.andThen_ok]
          exact ih
    · cases h
  | _, _, _, [], _ :: _, _, hr => hr.elim
  | _, _, _, _ :: _, [], _, hr => hr.elim

/-! ### 2. Rows that are written in parts -/
theorem splice_length {α : Type} {xs ys : List α} {lo : Nat} (h : lo + ys.length ≤ xs.length) : (splice xs lo ys).length = xs.length := by
  simp [splice]; omega
theorem splice_vals {t : RTy} {xs ys : List t.T} {lo : Nat} (h : lo + ys.length ≤ xs.length) : vals t (splice xs lo ys) = (vals t xs).take (lo * t.sz) ++ vals t ys ++ (vals t xs).drop (lo * t.sz + ys.length * t.sz) := by
  rw [splice, vals_append, vals_append, vals_take, ← Nat.add_mul, vals_drop]
theorem splice_take {t : RTy} {xs ys : List t.T} {cur : List Value} {lo : Nat} (h : lo + ys.length ≤ xs.length) (hcur : xs.length * t.sz ≤ cur.length) (h4 : cur.take (xs.length * t.sz) = vals t xs) :
    (setMany cur (lo * t.sz) (vals t ys)).take ((splice xs lo ys).length * t.sz) = vals t (splice xs lo ys) := by
  have hm : (lo + ys.length) * t.sz ≤ xs.length * t.sz := Nat.mul_le_mul_right _ h
  rw [Nat.add_mul] at hm
  rw [splice_length h, setMany_eq _ _ _ (by rw [vals_length]; omega), splice_vals h, vals_length, ← h4]
  apply List.ext_getElem?
  intro k
  have hl1 : (cur.take (lo * t.sz)).length = lo * t.sz := by rw [List.length_take]; omega
  have hvl := vals_length t ys
  have ht : (cur.take (xs.length * t.sz)).take (lo * t.sz) = cur.take (lo * t.sz) := by rw [List.take_take]; congr 1; omega
  rw [ht]
  have hAl : (cur.take (lo * t.sz) ++ vals t ys).length = lo * t.sz + ys.length * t.sz := by rw [List.length_append, hl1, hvl]
  generalize cur.take (lo * t.sz) ++ vals t ys = A at hAl ⊢
  by_cases hk : k < xs.length * t.sz
  · rw [List.getElem?_take, if_pos hk]
    by_cases h1 : k < lo * t.sz + ys.length * t.sz
    · rw [List.getElem?_append_left (by omega), List.getElem?_append_left (by omega)]
    · rw [List.getElem?_append_right (by omega), List.getElem?_append_right (by omega), List.getElem?_drop, List.getElem?_drop, List.getElem?_take, if_pos (by omega)]
  · rw [List.getElem?_take, if_neg hk]
    symm
    apply List.getElem?_eq_none
    simp only [List.length_append, hAl, List.length_drop, List.length_take]
    omega

theorem dstOf_rel {X : Cx} {ρ : Nat → Value} {M : Mem} {w : World} {t : RTy} {x : AV} {b lo len : Nat} {zs : List t.T} {v : Value} (hR : Rep X ρ M w) (h : dstOf M t x = some (b, zs, lo, len)) (hle : lo + len ≤ zs.length) (hv : RelA X (envOf ρ M) x v) :
    M[b]? = some (.row t zs) ∧ ∃ ad c, v = .slice ad len c ∧ (0 < len → ∃ g cap cur, ad = some ⟨g, lo * t.sz, none⟩ ∧ ρ b = .slice (some ⟨g, 0, none⟩) zs.length cap ∧ 0 < cap ∧ w.heap[g]? = some (.cells cur (X.eid t) (0, 0)) ∧ zs.length ≤ cap ∧ cap ≤ maxLen ∧
      cur.size = cap * t.sz ∧ cur.toList.take (zs.length * t.sz) = vals t zs) := by
  unfold dstOf at h
  split at h
  · rename_i b'
    split at h
    · rename_i u xs hb
      cases hc : u.cast t xs with
      | none => rw [hc] at h; cases h
      | some ys =>
        rw [hc] at h
        obtain ⟨rfl, hc'⟩ := cast_eq hc
        simp only at hc'
        subst hc'
        simp only [Option.map_some, Option.some.injEq, Prod.mk.injEq] at h
        obtain ⟨rfl, rfl, rfl, rfl⟩ := h
        refine ⟨of_at hb (by simp), ?_⟩
        simp only [RelA, RelV1, RelC, env_at_row hb] at hv
        obtain ⟨rfl, _⟩ := hv
        rcases hR.blk b' _ (of_at hb (by simp)) with ⟨rfl, ad, hu⟩ | ⟨g, cap, cur, hu, hc, hg, h1, h2, h3, h4⟩
        · exact ⟨ad, 0, hu, fun hp => absurd hp (by simp)⟩
        · exact ⟨_, _, hu, fun _ => ⟨g, cap, cur, by simp, hu, hc, hg, h1, h2, h3, h4⟩⟩
    · cases h
  · rename_i b' lo' len'
    split at h
    · rename_i u xs hb
      cases hc : u.cast t xs with
      | none => rw [hc] at h; cases h
      | some ys =>
        rw [hc] at h
        obtain ⟨rfl, hc'⟩ := cast_eq hc
        simp only at hc'
        subst hc'
        simp only [Option.map_some, Option.some.injEq, Prod.mk.injEq] at h
        obtain ⟨rfl, rfl, rfl, rfl⟩ := h
        refine ⟨of_at hb (by simp), ?_⟩
        simp only [RelA, RelV1, RelC, env_at_row hb] at hv
        obtain ⟨aa, cap', a', hua, hyv, hle', ha0, ha1⟩ := hv
        refine ⟨a', _, hyv, fun hp => ?_⟩
        rcases hR.blk b' _ (of_at hb (by simp)) with ⟨rfl, ad, hu⟩ | ⟨g, cap, cur, hu, hc, hg, h1, h2, h3, h4⟩
        · simp at hle; omega
        · rw [hu] at hua
          have hg' : some (⟨g, 0, none⟩ : Addr) = aa := by injection hua
          subst hg'
          exact ⟨g, cap, cur, ha1 hp, hu, hc, hg, h1, h2, h3, h4⟩
    · cases h
  · cases h

/-- Values stored into a part of a row. -/
theorem store_part {X : Cx} {ρ : Nat → Value} {M : Mem} {w : World} {t : RTy} {b lo : Nat} {zs ys : List t.T} {g cap : Nat} {cur : Array Value} (hR : Rep X ρ M w) (hb : M[b]? = some (.row t zs)) (hle : lo + ys.length ≤ zs.length)
    (hu : ρ b = .slice (some ⟨g, 0, none⟩) zs.length cap) (hc : 0 < cap) (hg : w.heap[g]? = some (.cells cur (X.eid t) (0, 0))) (h1 : zs.length ≤ cap) (h2 : cap ≤ maxLen) (h3 : cur.size = cap * t.sz) (h4 : cur.toList.take (zs.length * t.sz) = vals t zs) :
    ∃ w', (storeCells ⟨g, lo * t.sz, none⟩ (vals t ys)).run X.P w = .ok () w' ∧ Rep X ρ (M.set b (.row t (splice zs lo ys))) w' ∧ Ext w ρ M w' ρ (M.set b (.row t (splice zs lo ys))) := by
  have hm : (lo + ys.length) * t.sz ≤ zs.length * t.sz := Nat.mul_le_mul_right _ hle
  have hm2 : zs.length * t.sz ≤ cap * t.sz := Nat.mul_le_mul_right _ h1
  rw [Nat.add_mul] at hm
  have hvl := vals_length t ys
  have hst := run_storeCells_at (P := X.P) g (lo * t.sz) (X.eid t) (vals t ys) 0 cur w hg (by rw [hvl]; omega) (fun v hv => by
    obtain ⟨l, hl, hv⟩ := List.mem_flatten.1 hv
    obtain ⟨x, _, rfl⟩ := List.mem_map.1 hl
    obtain ⟨p, _, rfl⟩ := List.mem_map.1 hv
    exact p.val_one)
  simp only [Nat.add_zero] at hst
  rw [← setMany_eq _ _ _ (by rw [hvl]; simp; omega)] at hst
  refine ⟨_, hst, ?_⟩
  exact row_change (ys := splice zs lo ys) (cur' := (setMany cur.toList (lo * t.sz) (vals t ys)).toArray) hR hb hu hc hg h1 h2 (by simp [setMany_length, h3]) (splice_length hle) (by simpa using splice_take hle (by simp; omega) h4)
end Lw
/- Builtins; all abstract operations but calls, together. -/
set_option linter.unusedVariables false
set_option linter.unusedSimpArgs false
namespace Lw
open Go

/-! ### 1. Appends -/
theorem vals_one (t : RTy) (xs : List t.T) : ∀ u ∈ vals t xs, u.oneCell' = true := by
  intro v hv
  obtain ⟨l, hl, hv⟩ := List.mem_flatten.1 hv
  obtain ⟨x, _, rfl⟩ := List.mem_map.1 hl
  obtain ⟨p, _, rfl⟩ := List.mem_map.1 hv
  exact p.val_one
/-- An append to a slice that has no room at all. -/
theorem run_append_es {P : Program} (w : World) (t ty e : TypeId) (i : TypeInfo) (z : Value) (ht : P.underlying t = some (.slice e)) (hi : P.info? e = some i) (hz : i.zero = some z) (hzs : z.cells.size = i.size)
    (a0 : Option Addr) (ad : Option Addr) (m c : Nat) (news : List Value) (hl : news.length = m * i.size) (hnews : 0 < m → ∃ g o, ad = some ⟨g, o, none⟩ ∧ ∀ j v, news[j]? = some v → w.cell? ⟨g, o + j, none⟩ = some v)
    (hm : m ≤ 1073741824) (hby : i.bytes ≤ 1000) :
    (m = 0 ∧ (Builtin.append_ #[t, t] ty #[.slice a0 0 0, .slice ad m c]).run P w = .ok (.slice a0 0 0) w) ∨
    ∃ cap cur, (Builtin.append_ #[t, t] ty #[.slice a0 0 0, .slice ad m c]).run P w = .ok (.slice (some ⟨w.heap.size, 0, none⟩) m cap) (w.drew.alloc (.cells cur e)) ∧ m ≤ cap ∧ cap ≤ maxLen ∧ cur.size = cap * i.size ∧ cur.toList.take (m * i.size) = news := by
  by_cases h0 : m = 0
  · subst h0
    refine .inl ⟨rfl, ?_⟩
    have hn : news = [] := List.eq_nil_of_length_eq_zero (by simpa using hl)
    cases ad <;> cases a0 <;> simp [Builtin.append_, run_underlying ht, Go.sizeOf, typeInfo, hi, Builtin.lenOf, Builtin.firstCells, loadCells, loadCellsFrom, storeCells]
  · right
    obtain ⟨g, o, rfl, hc⟩ := hnews (by omega)
    have hc' : ∀ j v, news[j]? = some v → w.cell? ((⟨g, o, none⟩ : Addr).add j) = some v := fun j v hv => by rw [add_none]; exact hc j v hv
    have hb : m * i.bytes ≤ 1073741824 * 1000 := Nat.mul_le_mul hm hby
    have hge := grownCap_ge w m 0 e
    have hcm : grownCap w m 0 e ≤ maxLen := grownCap_le_maxLen w m 0 e (by unfold maxLen; omega)
    refine ⟨grownCap w m 0 e, news.toArray ++ Builtin.zeroCells z.cells (grownCap w m 0 e - m), ?_, hge, hcm, ?_, ?_⟩
    · cases a0 with
      | none => exact run_append_nil w t ty e i z ht hi hz ⟨g, o, none⟩ m c news hl hc' (by omega) (by omega) (by omega)
      | some b =>
        have hr := run_append_grow (P := P) w t ty e i z ht hi hz b 0 0 [] (by simp) (by simp) ⟨g, o, none⟩ m c news hl hc' (by omega) (by omega) (growslice_fits (by omega) (by simp only [Nat.zero_add]; omega))
        simp only [Nat.zero_add] at hr
        simpa using hr
    · simp only [Array.size_append, List.size_toArray, size_zeroCells, hzs, hl, ← Nat.add_mul]
      congr 1; omega
    · simp only [Array.toList_append]
      rw [← hl]
      exact List.take_left

theorem append_new_ok {X : Cx} {o : Oper} {M : Mem} {a : Act} {w : World} {ρ : Nat → Value} {p : Option Prop} {t : RTy} {ys : List t.T} {cap : Nat} {cur : Array Value} (hR : Rep X ρ M w)
    (h : (execOp a.eval o).run X.P w = .ok (.value (.slice (some ⟨w.heap.size, 0, none⟩) ys.length cap)) (w.drew.alloc (.cells cur (X.eid t)))) (h1 : ys.length ≤ cap) (h2 : cap ≤ maxLen) (h3 : cur.size = cap * t.sz) (h4 : cur.toList.take (ys.length * t.sz) = vals t ys) :
    OpOk X o a w ρ M ⟨p, .one (.c (.row M.length)), M ++ [.row t ys]⟩ := by
  refine row_ok hR h (fun k hk => ?_) (by simp) rfl rfl rfl (fun E => repB_new (heap_alloc_new w.drew _) h1 h2 h3 h4) (fun g hg => ?_)
  · rw [alloc_old w.drew _ k hk]; rfl
  · cases cap with
    | zero => simp [blkOf] at hg
    | succ c => simp [blkOf] at hg; omega

/-- What rowT says of an append's types. -/
theorem rowT_of {τ : Tys} {tys : Array TypeId} {rt : RTy} (h : rowT τ tys.toList = some rt) : ∃ t ti, tys = #[t, t] ∧ τ t = some ti ∧ ti.elem = some rt := by
  unfold rowT at h
  split at h
  · rename_i t u ht
    cases hb : Nat.beq t u with
    | false => rw [hb] at h; cases h
    | true =>
      rw [hb] at h
      have := Nat.eq_of_beq_eq_true hb
      subst this
      simp only [cond_true] at h
      split at h
      · rename_i ti hti
        exact ⟨t, ti, by apply Array.ext'; exact ht, hti, h⟩
      · cases h
  · cases h

theorem append_es_sound {X : Cx} {τ : Tys} (hT : Agree X τ) {o : Oper} {F : List AV} {M : Mem} {a : Act} {w : World} {ρ : Nat → Value} {c : Go.Call} (ho : o.op = .call c) (hc : c.callee = .builtin .append) {rt : RTy} {x : AV} {ys : List rt.T}
    (hargs : c.args.toList.map (oe F) = [.one (.c .es), x]) (ht : rowT τ c.argTypes.toList = some rt) (hs : srcOf M rt x = some ys) (hp : ys.length ≤ bigRow) (hF : RelF X (envOf ρ M) F a.tmps.toList) (hR : Rep X ρ M w) :
    OpOk X o a w ρ M ⟨some (ys.length ≤ bigRow), .one (.c (.row M.length)), M ++ [.row rt ys]⟩ := by
  obtain ⟨t, ti, htys, hti, hel⟩ := rowT_of ht
  have hA := hT t ti hti
  obtain ⟨hd, i, z, hi, hsz, hz, hzc, hby⟩ := elem_of hA hel
  obtain ⟨u, v, hav, hu, hv⟩ := args2 hF hargs
  obtain ⟨a0, rfl⟩ := (hu : ∃ a, u = .slice a 0 0)
  obtain ⟨ad, cc, rfl, hcells⟩ := srcOf_rel hR hs hv
  have hzs : z.cells.size = i.size := by have := congrArg List.length hzc; simp [RTy.enc_length] at this; omega
  have hrun := run_append_es (P := X.P) w t o.type (X.eid rt) i z hd hi hz hzs a0 ad ys.length cc (vals rt ys) (by rw [vals_length, hsz]) (fun h0 => hcells (by intro e; rw [e] at h0; simp at h0)) hp hby
  rcases hrun with ⟨h0, hr⟩ | ⟨cap, cur, hr, h1, h2, h3, h4⟩
  · have hnil : ys = [] := List.eq_nil_of_length_eq_zero h0
    subst hnil
    refine row_ok (xs := []) (u := .slice a0 0 0) (w' := w) hR (execOp_builtin ho hc ?_) (fun _ _ => rfl) (Nat.le_refl _) rfl rfl rfl (fun E => .inl ⟨rfl, _, rfl⟩) (fun g hg => by cases a0 <;> simp [blkOf] at hg)
    rw [htys, hav]
    simp only [builtin, Sem.run_bind]
    rw [hr]; rfl
  · refine append_new_ok hR (execOp_builtin ho hc ?_) h1 h2 (by rw [h3, hsz]) (by rw [← hsz]; exact h4)
    rw [htys, hav]
    simp only [builtin, Sem.run_bind]
    rw [hr]; rfl

theorem blkOf_own {g n cap k : Nat} (h : blkOf (.slice (some ⟨g, 0, none⟩) n cap) = some k) : k = g := by
  cases cap with
  | zero => simp [blkOf] at h
  | succ c => simp [blkOf] at h; omega
theorem append_row_sound {X : Cx} {τ : Tys} (hT : Agree X τ) {o : Oper} {F : List AV} {M : Mem} {a : Act} {w : World} {ρ : Nat → Value} {c : Go.Call} (ho : o.op = .call c) (hc : c.callee = .builtin .append) {rt : RTy} {x : AV} {b : Nat} {zs ys : List rt.T}
    (hargs : c.args.toList.map (oe F) = [.one (.c (.row b)), x]) (ht : rowT τ c.argTypes.toList = some rt) (hz : srcOf M rt (.one (.c (.row b))) = some zs) (hs : srcOf M rt x = some ys) (hp : zs.length + ys.length ≤ bigRow) (hF : RelF X (envOf ρ M) F a.tmps.toList) (hR : Rep X ρ M w) :
    OpOk X o a w ρ M ⟨some (zs.length + ys.length ≤ bigRow), .one (.c (.row M.length)), M.set b .dead ++ [.row rt (zs ++ ys)]⟩ := by
  obtain ⟨t, ti, htys, hti, hel⟩ := rowT_of ht
  have hA := hT t ti hti
  obtain ⟨hd, i, z, hi, hsz, hzz, hzc, hby⟩ := elem_of hA hel
  obtain ⟨u, v, hav, hu, hv⟩ := args2 hF hargs
  obtain ⟨ad, cc, rfl, hcells⟩ := srcOf_rel hR hs hv
  have hzs : z.cells.size = i.size := by have := congrArg List.length hzc; simp [RTy.enc_length] at this; omega
  have hb : M.at b = .row rt zs := by
    unfold srcOf at hz
    simp only at hz
    split at hz
    · rename_i u' xs' hb
      obtain ⟨rfl, hcst⟩ := cast_eq hz
      simp only at hcst
      rw [hb, hcst]
    · cases hz
  have hb' := of_at hb (by simp)
  have hu' : u = ρ b := by
    simp only [RelA, RelV1, RelC, env_at_row hb] at hu
    exact hu.1
  subst hu'
  have hk := hR.kill b
  -- the end of the proof, whatever the new row is
  have hend : ∀ (v' : Value) (w' : World), (Builtin.append_ #[t, t] o.type #[ρ b, .slice ad ys.length cc]).run X.P w = .ok v' w' → (∀ E, RepB X E w' v' (.row rt (zs ++ ys))) →
      (∀ k, k < w.heap.size → ¬ Owns ρ M b k → w'.heap[k]? = w.heap[k]?) → w.heap.size ≤ w'.heap.size → w'.os = w.os → w'.tape = w.tape → w'.output = w.output →
      (∀ g, blkOf v' = some g → Owns ρ M b g ∨ w.heap.size ≤ g) → OpOk X o a w ρ M ⟨some (zs.length + ys.length ≤ bigRow), .one (.c (.row M.length)), M.set b .dead ++ [.row rt (zs ++ ys)]⟩ := by
    intro v' w' hr hB hw hsz' hos htp hout hown
    have hlen : (M.set b .dead).length = M.length := by simp
    have hp' := hk.1.putNew (M := M) (w' := w') (u := v') (x := .row rt (zs ++ ys)) hk.2
      (fun k hk' hor => hw k hk' fun hobk => by
        rcases hor with ⟨b', ho'⟩ | hno
        · obtain ⟨hne, ho''⟩ := owns_kill ho'
          exact hne (hR.sep b' b k ho'' hobk)
        · exact hno b hobk)
      (fun k hk' => hw k (Nat.lt_of_lt_of_le hk' hR.sz) fun hobk => by have := hR.base b k hobk; omega) hsz' hos htp hout (hB _)
      (fun g hg => by
        rcases hown g hg with ho' | hge
        · exact ⟨fun b' hb'' => by obtain ⟨hne, ho''⟩ := owns_kill hb''; exact hne (hR.sep b' b g ho'' ho'), hR.base b g ho', .inl ⟨b, ho'⟩⟩
        · exact ⟨fun b' hb'' => by have := hk.1.lt hb''; omega, Nat.le_trans hR.sz hge, .inr hge⟩)
    rw [hlen] at hp'
    refine OpOk.value (v := v') (execOp_builtin ho hc ?_) ?_ hp'.1 hp'.2
    · rw [htys, hav]
      simp only [builtin, Sem.run_bind]
      rw [hr]; rfl
    · show RelC X _ (.row M.length) _
      have he : envOf (upd ρ M.length v') (M.set b .dead ++ [.row rt (zs ++ ys)]) M.length = .ent v' (.row rt (zs ++ ys).length) := by
        have := envOf_push_new ρ (M.set b .dead) v' (.row rt (zs ++ ys)) rfl
        rwa [hlen] at this
      simp only [RelC, he]
      refine ⟨trivial, ?_⟩
      rcases hB (fun _ => .out) with ⟨_, ad', hu⟩ | ⟨g, cap, cur, hu, _⟩
      · exact ⟨ad', 0, 0, hu⟩
      · exact ⟨_, _, _, hu⟩
  rcases hR.blk b _ hb' with ⟨hnil, a0, hub⟩ | ⟨g, cap, cur, hub, hcap, hg, h1, h2, h3, h4⟩
  · subst hnil
    have hrun := run_append_es (P := X.P) w t o.type (X.eid rt) i z hd hi hzz hzs a0 ad ys.length cc (vals rt ys) (by rw [vals_length, hsz]) (fun h0 => hcells (by intro e; rw [e] at h0; simp at h0)) (by have h : 0 + ys.length ≤ 1073741824 := hp; omega) hby
    rcases hrun with ⟨h0, hr⟩ | ⟨cap, cur, hr, h1, h2, h3, h4⟩
    · have hynil : ys = [] := List.eq_nil_of_length_eq_zero h0
      subst hynil
      exact hend _ w (by rw [hub]; exact hr) (fun E => .inl ⟨rfl, _, rfl⟩) (fun _ _ _ => rfl) (Nat.le_refl _) rfl rfl rfl (fun g hg => by cases a0 <;> simp [blkOf] at hg)
    · refine hend _ (w.drew.alloc (.cells cur (X.eid rt))) (by rw [hub]; exact hr) (fun E => ?_) (fun k hk' _ => by rw [alloc_old w.drew _ k hk']; rfl) (by simp) rfl rfl rfl (fun g hg => .inr (by rw [blkOf_own hg]; exact Nat.le_refl _))
      simp only [List.nil_append]
      exact repB_new (heap_alloc_new w.drew _) h1 h2 (by rw [h3, hsz]) (by rw [← hsz]; exact h4)
  · have hbig : zs.length + ys.length ≤ 1073741824 := hp
    have hsp := rt.sz_pos
    by_cases hy0 : ys = []
    · subst hy0
      have hr : (Builtin.append_ #[t, t] o.type #[ρ b, .slice ad 0 cc]).run X.P w = .ok (ρ b) w := by
        rw [hub]
        cases ad <;> simp [Builtin.append_, run_underlying hd, Go.sizeOf, typeInfo, hi, Builtin.lenOf, Builtin.firstCells, loadCells, loadCellsFrom, storeCells, h1]
      refine hend _ w (by simpa using hr) (fun E => ?_) (fun _ _ _ => rfl) (Nat.le_refl _) rfl rfl rfl (fun k hk' => .inl (owns_row hb' k hk'))
      rw [List.append_nil]
      exact .inr ⟨g, cap, cur, hub, hcap, hg, h1, h2, h3, h4⟩
    · obtain ⟨gs, os, rfl, hcs⟩ := hcells hy0
      have hb2 : (zs.length + ys.length) * i.bytes ≤ 1073741824 * 1000 := Nat.mul_le_mul hbig hby
      have hc' : ∀ j v, (vals rt ys)[j]? = some v → w.cell? ((⟨gs, os, none⟩ : Addr).add j) = some v := fun j v hv => by rw [add_none]; exact hcs j v hv
      have hvy := vals_length rt ys
      have hvz := vals_length rt zs
      by_cases hroom : zs.length + ys.length ≤ cap
      · have hmul : (zs.length + ys.length) * rt.sz ≤ cap * rt.sz := Nat.mul_le_mul_right _ hroom
        rw [Nat.add_mul] at hmul
        have hr := run_append_room (P := X.P) w t o.type (X.eid rt) i hd hi g zs.length cap cur hg ⟨gs, os, none⟩ ys.length cc (vals rt ys) (by rw [hvy, hsz]) hc' (vals_one rt ys) hroom (by rw [hvy, hsz, h3]; omega)
        rw [hsz] at hr
        refine hend _ _ (by rw [hub]; exact hr) (fun E => ?_) (fun k hk' hno => setRow_other w g k _ fun he => hno (by rw [he]; exact owns_row hb' g (by rw [hub]; exact blkOf_slice hcap))) (by simp) rfl rfl rfl (fun k hk' => .inl (owns_row hb' k (by rw [hub, blkOf_own hk']; exact blkOf_slice hcap)))
        have := repB_new (X := X) (E := E) (t := rt) (xs := zs ++ ys) (cap := cap) (setRow_heap w g cur (cur.toList.take (zs.length * rt.sz) ++ vals rt ys ++ cur.toList.drop (zs.length * rt.sz + (vals rt ys).length)).toArray _ _ hg) (by simpa using hroom) h2
          (by simp only [List.size_toArray, List.length_append, List.length_take, List.length_drop, Array.length_toList, hvy]; omega)
          (by rw [h4, vals_append, List.length_append, Nat.add_mul, ← hvz, ← hvy, ← List.length_append]; exact List.take_left)
        simpa using this
      · have holds : ∀ j u, (vals rt zs)[j]? = some u → w.cell? ((⟨g, 0, none⟩ : Addr).add j) = some u := fun j u hj => by
          rw [add_none, Nat.zero_add]
          rw [← h4, List.getElem?_take] at hj
          split at hj
          · exact cell_at hg hj
          · cases hj
        have hr := run_append_grow (P := X.P) w t o.type (X.eid rt) i z hd hi hzz ⟨g, 0, none⟩ zs.length cap (vals rt zs) (by rw [hvz, hsz]) holds ⟨gs, os, none⟩ ys.length cc (vals rt ys) (by rw [hvy, hsz]) hc' (by omega) (by omega) (growslice_fits (by omega) (by omega))
        have hge := grownCap_ge w (zs.length + ys.length) cap (X.eid rt)
        have hcm : grownCap w (zs.length + ys.length) cap (X.eid rt) ≤ maxLen := grownCap_le_maxLen w _ _ _ (by unfold maxLen; omega)
        generalize hcap' : grownCap w (zs.length + ys.length) cap (X.eid rt) = cap' at hr hge hcm
        refine hend _ (w.drew.alloc (.cells ((vals rt zs).toArray ++ (vals rt ys).toArray ++ Builtin.zeroCells z.cells (cap' - (zs.length + ys.length))) (X.eid rt))) (by rw [hub]; exact hr) (fun E => ?_) (fun k hk' _ => by rw [alloc_old w.drew _ k hk']; rfl) (by simp) rfl rfl rfl (fun k hk' => .inr (by rw [blkOf_own hk']; exact Nat.le_refl _))
        have := repB_new (X := X) (E := E) (t := rt) (xs := zs ++ ys) (cap := cap') (heap_alloc_new w.drew (.cells ((vals rt zs).toArray ++ (vals rt ys).toArray ++ Builtin.zeroCells z.cells (cap' - (zs.length + ys.length))) (X.eid rt))) (by simpa using hge) hcm
          (by simp only [Array.size_append, List.size_toArray, size_zeroCells, hzs, hvy, hvz, hsz, ← Nat.add_mul]; congr 1; omega)
          (by simp only [Array.toList_append]; rw [vals_append, List.length_append, Nat.add_mul, ← hvz, ← hvy, ← List.length_append]; exact List.take_left)
        simpa using this

/-! ### 2. In place: an append within the row, copy, clear -/
theorem srcRow_of {M : Mem} {rt : RTy} {b : Nat} {zs : List rt.T} (hz : srcOf M rt (.one (.c (.row b))) = some zs) : M.at b = .row rt zs := by
  unfold srcOf at hz
  simp only at hz
  split at hz
  · rename_i u' xs' hb
    obtain ⟨rfl, hcst⟩ := cast_eq hz
    simp only at hcst
    rw [hb, hcst]
  · cases hz
theorem append_sub_sound {X : Cx} {τ : Tys} (hT : Agree X τ) {o : Oper} {F : List AV} {M : Mem} {a : Act} {w : World} {ρ : Nat → Value} {c : Go.Call} (ho : o.op = .call c) (hc : c.callee = .builtin .append) {rt : RTy} {b k j m : Nat} {zs ys : List rt.T}
    (hargs : c.args.toList.map (oe F) = [.one (.c (.sub b 0 k)), .one (.c (.sub b j m))]) (ht : rowT τ c.argTypes.toList = some rt) (hz : srcOf M rt (.one (.c (.row b))) = some zs) (hs : srcOf M rt (.one (.c (.sub b j m))) = some ys)
    (hp : k + m ≤ zs.length ∧ ys.length = m) (hF : RelF X (envOf ρ M) F a.tmps.toList) (hR : Rep X ρ M w) :
    OpOk X o a w ρ M ⟨some (k + m ≤ zs.length ∧ ys.length = m), .one (.c (.sub b 0 (k + m))), M.set b (.row rt (splice zs k ys))⟩ := by
  obtain ⟨t, ti, htys, hti, hel⟩ := rowT_of ht
  have hA := hT t ti hti
  obtain ⟨hd, i, z, hi, hsz, hzz, hzc, hby⟩ := elem_of hA hel
  obtain ⟨u, v, hav, hu, hv⟩ := args2 hF hargs
  obtain ⟨ad, cc, hveq, hcells⟩ := srcOf_rel hR hs hv
  have hb := srcRow_of hz
  have hb' := of_at hb (by simp)
  have hu0 := hu
  simp only [RelA, RelV1, RelC, env_at_row hb] at hu
  obtain ⟨aa, cap', a', hua, huv, hle, ha0, ha1⟩ := hu
  have ha := ha0 trivial
  subst ha
  obtain ⟨p1, p2⟩ := hp
  rcases hR.blk b _ hb' with ⟨hnil, a0, hub⟩ | ⟨g, cap, cur, hub, hcap, hg, h1, h2, h3, h4⟩
  · -- an empty row: nothing to do
    subst hnil
    have hk0 : k = 0 ∧ m = 0 := by simp at p1; exact p1
    obtain ⟨rfl, rfl⟩ := hk0
    have hy0 : ys = [] := List.eq_nil_of_length_eq_zero p2
    subst hy0
    rw [hub] at hua
    obtain ⟨rfl, rfl⟩ : a0 = a' ∧ 0 = cap' := by injection hua with e1 e2 e3; exact ⟨e1, e3⟩
    have hset : M.set b (.row rt (splice [] 0 [])) = M := by
      have : (splice ([] : List rt.T) 0 []) = [] := rfl
      rw [this]; exact set_same hb'
    have hrun : (Builtin.append_ #[t, t] o.type #[.slice a0 0 0, .slice ad 0 cc]).run X.P w = .ok (.slice a0 0 0) w := by
      cases ad <;> cases a0 <;> simp [Builtin.append_, run_underlying hd, Go.sizeOf, typeInfo, hi, Builtin.lenOf, Builtin.firstCells, loadCells, loadCellsFrom, storeCells]
    refine OpOk.value (v := .slice a0 0 0) (w' := w) (ρ' := ρ) (execOp_builtin ho hc ?_) ?_ (by show Rep X ρ (M.set b _) w; rw [hset]; exact hR) (by show Ext w ρ M w ρ (M.set b _); rw [hset]; exact Ext.refl _ _ _)
    · rw [htys, hav, huv, hveq]
      simp only [builtin, Sem.run_bind]
      have : (Value.slice a0 0 (0 - 0)) = .slice a0 0 0 := rfl
      rw [this]
      simp only [List.length_nil]
      rw [hrun]; rfl
    · show RelA X (envOf ρ (M.set b _)) _ _
      rw [hset, ← show Value.slice a0 0 (0 - 0) = .slice a0 0 0 from rfl, ← huv]
      exact hu0
  · rw [hub] at hua
    obtain ⟨hg', rfl⟩ : some (⟨g, 0, none⟩ : Addr) = a' ∧ cap = cap' := by injection hua with e1 e2 e3; exact ⟨e1, e3⟩
    subst hg'
    have hsp := rt.sz_pos
    have hle2 : k + ys.length ≤ zs.length := by omega
    obtain ⟨w', hst, hRE⟩ := store_part (ys := ys) (lo := k) hR hb' hle2 hub hcap hg h1 h2 h3 h4
    have hload : (Builtin.firstCells i.size ys.length (.slice ad ys.length cc)).run X.P w = .ok (vals rt ys).toArray w := by
      cases hy : ys with
      | nil =>
        have e0 : (vals rt ([] : List rt.T)).toArray = #[] := rfl
        rw [e0]
        cases ad <;> simp [Builtin.firstCells, loadCells, loadCellsFrom]
      | cons y0 yr =>
        obtain ⟨g2, o2, rfl, hcs⟩ := hcells (by rw [hy]; simp)
        rw [← hy]
        exact run_firstCells_some w i.size ys.length ⟨g2, o2, none⟩ ys.length cc (vals rt ys) (by rw [vals_length, hsz]) (fun jj u' hj => by rw [add_none]; exact hcs jj u' hj)
    have hrun : (Builtin.append_ #[t, t] o.type #[.slice (some ⟨g, 0, none⟩) k cap, .slice ad ys.length cc]).run X.P w = .ok (.slice (some ⟨g, 0, none⟩) (k + ys.length) cap) w' := by
      have hneed : k + ys.length ≤ cap := by omega
      have hst' : (storeCells ((⟨g, 0, none⟩ : Addr).add (k * i.size)) (vals rt ys)).run X.P w = .ok () w' := by rw [add_none, Nat.zero_add, hsz]; exact hst
      simp [Builtin.append_, run_underlying hd, Go.sizeOf, typeInfo, hi, Builtin.lenOf, hneed, hload, hst']
    refine OpOk.value (v := .slice (some ⟨g, 0, none⟩) (k + ys.length) cap) (execOp_builtin ho hc ?_) ?_ hRE.1 hRE.2
    · rw [htys, hav, huv, hveq]
      simp only [builtin, Sem.run_bind, Nat.sub_zero]
      rw [hrun]; rfl
    · show RelC X (envOf ρ (M.set b _)) (.sub b 0 (k + m)) _
      rw [envOf_set hb' (by simp [Blk.shape, splice_length hle2])]
      simp only [RelC, env_at_row hb]
      exact ⟨_, cap, _, hub, by rw [p2]; rfl, by omega, fun _ => rfl, fun _ => by simp⟩

theorem min_take {α : Type} (xs : List α) (n : Nat) : (xs.take n).length = Nat.min xs.length n := by rw [List.length_take]; exact Nat.min_comm _ _
theorem copy_sound {X : Cx} {τ : Tys} (hT : Agree X τ) {o : Oper} {F : List AV} {M : Mem} {a : Act} {w : World} {ρ : Nat → Value} {c : Go.Call} (ho : o.op = .call c) (hc : c.callee = .builtin .copy) {t : TypeId} {ti : TI} {rt : RTy} {x y : AV} {b lo len : Nat} {zs ys : List rt.T} {tr : List TypeId}
    (hargs : c.args.toList.map (oe F) = [x, y]) (htys : c.argTypes.toList = t :: tr) (hti : τ t = some ti) (hel : ti.elem = some rt) (hdst : dstOf M rt x = some (b, zs, lo, len)) (hs : srcOf M rt y = some ys)
    (hp : lo + len ≤ zs.length) (hF : RelF X (envOf ρ M) F a.tmps.toList) (hR : Rep X ρ M w) :
    OpOk X o a w ρ M ⟨some (lo + len ≤ zs.length), intAV .i64 (Nat.min ys.length len), M.set b (.row rt (splice zs lo (ys.take len)))⟩ := by
  have hA := hT t ti hti
  obtain ⟨hd, i, z, hi, hsz, hzz, hzc, hby⟩ := elem_of hA hel
  obtain ⟨u, v, hav, hu, hv⟩ := args2 hF hargs
  obtain ⟨ad, cc, rfl, hcells⟩ := srcOf_rel hR hs hv
  obtain ⟨hb', ad2, c2, rfl, hpos⟩ := dstOf_rel hR hdst hp hu
  have h0 := list1 htys
  have hmin := min_take ys len
  have hload : (Builtin.firstCells i.size (Nat.min ys.length len) (.slice ad ys.length cc)).run X.P w = .ok (vals rt (ys.take len)).toArray w := by
    cases hy : ys.take len with
    | nil =>
      have e0 : (vals rt ([] : List rt.T)).toArray = #[] := rfl
      have e1 : Nat.min ys.length len = 0 := by rw [← hmin, hy]; rfl
      rw [e0, e1]
      cases ad <;> simp [Builtin.firstCells, loadCells, loadCellsFrom]
    | cons y0 yr =>
      obtain ⟨g2, o2, rfl, hcs⟩ := hcells (by intro e; rw [e] at hy; simp at hy)
      rw [← hy, ← hmin]
      refine run_firstCells_some w i.size _ ⟨g2, o2, none⟩ ys.length cc (vals rt (ys.take len)) (by rw [vals_length, hsz]) (fun jj u' hj => ?_)
      rw [add_none]
      refine hcs jj u' ?_
      rw [← vals_take, List.getElem?_take] at hj
      split at hj
      · exact hj
      · cases hj
  by_cases hz0 : ys.take len = []
  · -- nothing is copied
    have hset : M.set b (.row rt (splice zs lo (ys.take len))) = M := by
      rw [hz0]
      have : splice zs lo ([] : List rt.T) = zs := by simp [splice]
      rw [this]; exact set_same hb'
    have hrun : (Builtin.copy_ c.argTypes o.type #[.slice ad2 len c2, .slice ad ys.length cc]).run X.P w = .ok (.int .i64 (Nat.min ys.length len)) w := by
      rw [hz0] at hload
      have e0 : (vals rt ([] : List rt.T)).toArray = #[] := rfl
      rw [e0] at hload
      cases ad2 <;> simp [Builtin.copy_, h0, run_underlying hd, Go.sizeOf, typeInfo, hi, Builtin.lenOf, hload, storeCells, goInt]
    refine OpOk.value (v := .int .i64 (Nat.min ys.length len)) (w' := w) (ρ' := ρ) (execOp_builtin ho hc ?_) rfl (by show Rep X ρ (M.set b _) w; rw [hset]; exact hR) (by show Ext w ρ M w ρ (M.set b _); rw [hset]; exact Ext.refl _ _ _)
    rw [hav]
    simp only [builtin, Sem.run_bind]
    rw [hrun]; rfl
  · have hlp : 0 < len := by
      rcases Nat.eq_zero_or_pos len with hz | hz
      · subst hz; exact absurd (by simp) hz0
      · exact hz
    obtain ⟨g, cap, cur, rfl, hub, hcap, hg, h1, h2, h3, h4⟩ := hpos hlp
    have hle2 : lo + (ys.take len).length ≤ zs.length := by rw [List.length_take]; omega
    obtain ⟨w', hst, hRE⟩ := store_part (ys := ys.take len) (lo := lo) hR hb' hle2 hub hcap hg h1 h2 h3 h4
    have hrun : (Builtin.copy_ c.argTypes o.type #[.slice (some ⟨g, lo * rt.sz, none⟩) len c2, .slice ad ys.length cc]).run X.P w = .ok (.int .i64 (Nat.min ys.length len)) w' := by
      simp [Builtin.copy_, h0, run_underlying hd, Go.sizeOf, typeInfo, hi, Builtin.lenOf, hload, hst, goInt]
    refine OpOk.value (v := .int .i64 (Nat.min ys.length len)) (execOp_builtin ho hc ?_) rfl hRE.1 hRE.2
    rw [hav]
    simp only [builtin, Sem.run_bind]
    rw [hrun]; rfl

theorem zeroCells_vals {t : RTy} {z : Value} (hz : z.cells.toList = (t.enc t.zero).map PC.val) : ∀ n, (Builtin.zeroCells z.cells n).toList = vals t (List.replicate n t.zero) := by
  have hl : z.cells.size = t.sz := by have := congrArg List.length hz; simpa [RTy.enc_length] using this
  intro n
  apply List.ext_getElem?
  intro k
  have hsp := t.sz_pos
  by_cases hk : k < n * t.sz
  · have hi : k / t.sz < n := (Nat.div_lt_iff_lt_mul hsp).2 hk
    have hmod := Nat.mod_lt k hsp
    have hjj : k / t.sz * t.sz + k % t.sz = k := by rw [Nat.mul_comm]; exact Nat.div_add_mod k t.sz
    have hel := vals_elem t (List.replicate n t.zero) (k / t.sz) t.zero (by rw [List.getElem?_replicate, if_pos hi])
    have h1 : (vals t (List.replicate n t.zero))[k]? = ((t.enc t.zero).map PC.val)[k % t.sz]? := by
      rw [← hel, List.getElem?_take, if_pos hmod, List.getElem?_drop, hjj]
    rw [h1, ← hz]
    simp only [Builtin.zeroCells, hl, Array.toList_map, Array.toList_range, List.getElem?_map, List.getElem?_range hk, Option.map_some]
    rw [getElem!_pos z.cells (k % t.sz) (by omega), Array.getElem?_toList, Array.getElem?_eq_getElem (by omega)]
  · rw [List.getElem?_eq_none, List.getElem?_eq_none]
    · rw [vals_length]; simp; omega
    · simp [Builtin.zeroCells, hl]; omega
theorem clear_sound {X : Cx} {τ : Tys} (hT : Agree X τ) {o : Oper} {F : List AV} {M : Mem} {a : Act} {w : World} {ρ : Nat → Value} {c : Go.Call} (ho : o.op = .call c) (hc : c.callee = .builtin .clear) {t : TypeId} {ti : TI} {rt : RTy} {x : AV} {b lo len : Nat} {zs : List rt.T} {tr : List TypeId}
    (hargs : c.args.toList.map (oe F) = [x]) (htys : c.argTypes.toList = t :: tr) (hti : τ t = some ti) (hel : ti.elem = some rt) (hdst : dstOf M rt x = some (b, zs, lo, len))
    (hp : lo + len ≤ zs.length) (hF : RelF X (envOf ρ M) F a.tmps.toList) (hR : Rep X ρ M w) :
    OpOk X o a w ρ M ⟨some (lo + len ≤ zs.length), .tup [], M.set b (.row rt (splice zs lo (List.replicate len rt.zero)))⟩ := by
  have hA := hT t ti hti
  obtain ⟨hd, i, z, hi, hsz, hzz, hzc, hby⟩ := elem_of hA hel
  obtain ⟨u, hav, hu⟩ := args1 hF hargs
  obtain ⟨hb', ad2, c2, rfl, hpos⟩ := dstOf_rel hR hdst hp hu
  have h0 := list1 htys
  by_cases hl0 : len = 0
  · subst hl0
    have hset : M.set b (.row rt (splice zs lo (List.replicate 0 rt.zero))) = M := by
      have : splice zs lo (List.replicate 0 rt.zero) = zs := by simp [splice]
      rw [this]; exact set_same hb'
    have hrun : (Builtin.clear_ c.argTypes o.type #[.slice ad2 0 c2]).run X.P w = .ok (.tuple #[]) w := by
      cases ad2 <;> simp [Builtin.clear_, h0, run_underlying hd]
    refine OpOk.value (v := .tuple #[]) (w' := w) (ρ' := ρ) (execOp_builtin ho hc ?_) ⟨#[], rfl, trivial⟩ (by show Rep X ρ (M.set b _) w; rw [hset]; exact hR) (by show Ext w ρ M w ρ (M.set b _); rw [hset]; exact Ext.refl _ _ _)
    rw [hav]
    simp only [builtin, Sem.run_bind]
    rw [hrun]; rfl
  · obtain ⟨g, cap, cur, rfl, hub, hcap, hg, h1, h2, h3, h4⟩ := hpos (by omega)
    obtain ⟨w', hst, hRE⟩ := store_part (ys := List.replicate len rt.zero) (lo := lo) hR hb' (by simpa using hp) hub hcap hg h1 h2 h3 h4
    have hrun : (Builtin.clear_ c.argTypes o.type #[.slice (some ⟨g, lo * rt.sz, none⟩) len c2]).run X.P w = .ok (.tuple #[]) w' := by
      obtain ⟨l', rfl⟩ : ∃ l', len = l' + 1 := ⟨len - 1, by omega⟩
      simp [Builtin.clear_, h0, run_underlying hd, zeroValue, typeInfo, hi, hzz, zeroCells_vals hzc, hst]
    refine OpOk.value (v := .tuple #[]) (execOp_builtin ho hc ?_) ⟨#[], rfl, trivial⟩ hRE.1 hRE.2
    rw [hav]
    simp only [builtin, Sem.run_bind]
    rw [hrun]; rfl
end Lw
/- The rest of the operations; all but calls of functions, together. -/
set_option linter.unusedVariables false
set_option linter.unusedSimpArgs false
namespace Lw
open Go

theorem bool_of {X : Cx} {E : Env} {b : Bool} {v : Value} (h : RelA X E (.one (.c (.pl (.bool b)))) v) : v = .bool b := h
theorem int_of {X : Cx} {E : Env} {k : IntKind} {n : Int} {v : Value} (h : RelA X E (.one (.c (.pl (.int k n)))) v) : v = .int k n := h

theorem move_sound {X : Cx} {τ : Tys} {o : Oper} {F : List AV} {M : Mem} {a : Act} {w : World} {ρ : Nat → Value} {x : OR} {y : Operand} (ho : o.op = .move y ∨ o.op = .assign y)
    (h : aop τ o F M = some x) (hF : RelF X (envOf ρ M) F a.tmps.toList) (hR : Rep X ρ M w) : OpOk X o a w ρ M x := by
  unfold aop at h
  rcases ho with ho | ho
  · rw [ho] at h; simp only at h; cases h
    exact OpOk.pure hR (by simp only [execOp, ho, Sem.run_pure]) (oe_rel hF y)
  · rw [ho] at h; simp only at h; cases h
    exact OpOk.pure hR (by simp only [execOp, ho, Sem.run_pure]) (oe_rel hF y)

theorem pick_sound {X : Cx} {τ : Tys} {o : Oper} {F : List AV} {M : Mem} {a : Act} {w : World} {ρ : Nat → Value} {x : OR} {c y z : Operand} (ho : o.op = .pick c y z)
    (h : aop τ o F M = some x) (hF : RelF X (envOf ρ M) F a.tmps.toList) (hR : Rep X ρ M w) : OpOk X o a w ρ M x := by
  unfold aop at h
  rw [ho] at h; simp only at h
  have hc := oe_rel hF c
  have hy := oe_rel hF y
  have hz := oe_rel hF z
  split at h
  · rename_i t ht
    rw [ht] at hc
    have hcv := bool_of hc
    split at h
    · rename_i p q hp hq
      rw [hp] at hy; rw [hq] at hz
      cases h
      refine OpOk.pure (v := .bool (cond t p q)) hR ?_ rfl
      simp only [execOp, ho, Sem.run_bind, hcv, bool_of hy, bool_of hz]
      cases t <;> simp [asBool]
    · cases h
  · cases h

theorem alloc_sound {X : Cx} {τ : Tys} (hT : Agree X τ) {o : Oper} {F : List AV} {M : Mem} {a : Act} {w : World} {ρ : Nat → Value} {x : OR} {t : TypeId} (ho : o.op = .alloc t)
    (h : aop τ o F M = some x) (hF : RelF X (envOf ρ M) F a.tmps.toList) (hR : Rep X ρ M w) : OpOk X o a w ρ M x := by
  unfold aop at h
  rw [ho] at h; simp only at h
  split at h
  · rename_i ti hti
    split at h
    · rename_i z zs hz
      cases h
      obtain ⟨v, hv, hr⟩ := zero_of (hT t ti hti) (by rw [hz]; simp)
      refine box_ok (v := v) (t := t) hR (by rw [← hz]; exact hr _) ?_
      simp only [execOp, ho, Sem.run_bind, Instr.alloc, hv, Result.andThen_ok, newVar_run (X := X) (E := fun _ => .out), Sem.run_pure]
    · cases h
  · cases h

theorem boxOp_sound {X : Cx} {τ : Tys} {o : Oper} {F : List AV} {M : Mem} {a : Act} {w : World} {ρ : Nat → Value} {x : OR} {t : TypeId} {y : Operand} (ho : o.op = .box t y)
    (h : aop τ o F M = some x) (hF : RelF X (envOf ρ M) F a.tmps.toList) (hR : Rep X ρ M w) : OpOk X o a w ρ M x := by
  unfold aop at h
  rw [ho] at h; simp only at h
  have hy := oe_rel hF y
  split at h
  · rename_i cs hcs
    cases h
    refine box_ok (v := a.eval y) (t := t) hR (cellsOf_rel hcs hy) ?_
    simp only [execOp, ho, Sem.run_bind, Instr.box, Result.andThen_ok, newVar_run (X := X) (E := fun _ => .out), Sem.run_pure]
  · cases h

theorem nilCheck_sound {X : Cx} {τ : Tys} {o : Oper} {F : List AV} {M : Mem} {a : Act} {w : World} {ρ : Nat → Value} {x : OR} {y : Operand} (ho : o.op = .nilCheck y)
    (h : aop τ o F M = some x) (hF : RelF X (envOf ρ M) F a.tmps.toList) (hR : Rep X ρ M w) : OpOk X o a w ρ M x := by
  unfold aop at h
  rw [ho] at h; simp only at h
  have hy := oe_rel hF y
  split at h
  · rename_i b i off hoe
    cases hl : live M b with
    | false => rw [hl] at h; cases h
    | true =>
      rw [hl] at h; cases h
      obtain ⟨ad, hv⟩ := isLivePtr_rel (X := X) (ρ := ρ) (p := .ptr b i off) hl (by rw [hoe] at hy; exact hy)
      refine OpOk.pure (v := a.eval y) hR ?_ hy
      simp only [execOp, ho, hv, Sem.run_pure]
  · rename_i cs hoe
    cases h
    have hy2 := hy
    rw [hoe] at hy2
    obtain ⟨g, off, hv, _⟩ := hy2
    refine OpOk.pure (v := a.eval y) hR ?_ hy
    simp only [execOp, ho, hv, Sem.run_pure]
  · cases h

theorem binOp_sound {X : Cx} {τ : Tys} (hT : Agree X τ) {o : Oper} {F : List AV} {M : Mem} {a : Act} {w : World} {ρ : Nat → Value} {x : OR} {op : BinOp} {t u : TypeId} {y z : Operand} (ho : o.op = .binOp op t y z u)
    (h : aop τ o F M = some x) (hp : preOk x.pre) (hF : RelF X (envOf ρ M) F a.tmps.toList) (hR : Rep X ρ M w) : OpOk X o a w ρ M x := by
  unfold aop at h
  rw [ho] at h; simp only at h
  split at h
  · rename_i p v hab
    cases h
    obtain ⟨c, rfl, hg, hb⟩ := abin_sound hT hab hp (oe_rel hF y) (oe_rel hF z) y z w
    refine OpOk.pure (v := c.val) hR ?_ rfl
    simp only [execOp, ho, Sem.run_bind, hg, hb, Result.andThen_ok, Sem.run_pure]
  · cases h

theorem unOp_sound {X : Cx} {τ : Tys} {o : Oper} {F : List AV} {M : Mem} {a : Act} {w : World} {ρ : Nat → Value} {x : OR} {op : UnOp} {t : TypeId} {y : Operand} (ho : o.op = .unOp op t y)
    (h : aop τ o F M = some x) (hF : RelF X (envOf ρ M) F a.tmps.toList) (hR : Rep X ρ M w) : OpOk X o a w ρ M x := by
  unfold aop at h
  rw [ho] at h; simp only at h
  have hy := oe_rel hF y
  split at h
  · rename_i b hoe
    cases h
    rw [hoe] at hy
    refine OpOk.pure (v := .bool (!b)) hR ?_ rfl
    simp only [execOp, ho, Sem.run_bind, bool_of hy, Op.unary, Result.andThen_ok, Sem.run_pure]
  · rename_i k n hoe
    cases h
    rw [hoe] at hy
    refine OpOk.pure (v := .int k (k.wrap (0 - n))) hR ?_ rfl
    simp only [execOp, ho, Sem.run_bind, int_of hy, Op.unary, Op.intArith, Result.andThen_ok, Sem.run_pure]
  · cases h

theorem convert_sound {X : Cx} {τ : Tys} (hT : Agree X τ) {o : Oper} {F : List AV} {M : Mem} {a : Act} {w : World} {ρ : Nat → Value} {x : OR} {s d : TypeId} {y : Operand} (ho : o.op = .convert s d y)
    (h : aop τ o F M = some x) (hF : RelF X (envOf ρ M) F a.tmps.toList) (hR : Rep X ρ M w) : OpOk X o a w ρ M x := by
  unfold aop at h
  rw [ho] at h; simp only at h
  have hy := oe_rel hF y
  split at h
  · rename_i ts td k n hts htd hoe
    rw [hoe] at hy
    split at h
    · rename_i kd hk
      cases h
      obtain ⟨ds, hds, _⟩ := (hT s ts hts).agg
      have hdd := (hT d td htd).ik kd hk
      refine OpOk.pure (v := .int kd (kd.wrap n)) hR ?_ rfl
      simp only [execOp, ho, Sem.run_bind, int_of hy, Go.convert, run_underlying hds, run_underlying hdd, Result.andThen_ok, Sem.run_pure, Conv.intToInt]
    · cases h
  · cases h

theorem v1sOf_arr {X : Cx} {E : Env} {F : List AV} {a : Act} (hF : RelF X E F a.tmps.toList) {xs : Array Operand} {vs : List V1} (h : v1sOf (xs.toList.map (oe F)) = some vs) : RelV1s X E vs (xs.map a.eval).toList :=
  v1sOf_rel h (map_eval hF xs)

theorem makeFunc_sound {X : Cx} {τ : Tys} {o : Oper} {F : List AV} {M : Mem} {a : Act} {w : World} {ρ : Nat → Value} {x : OR} {fn : Fn} {first caps : Array Operand} (ho : o.op = .makeFunc fn first caps)
    (h : aop τ o F M = some x) (hF : RelF X (envOf ρ M) F a.tmps.toList) (hR : Rep X ρ M w) : OpOk X o a w ρ M x := by
  unfold aop at h
  rw [ho] at h; simp only at h
  cases fn <;> simp only at h <;> try cases h
  case func f =>
    split at h
    · rename_i p q hp hq
      cases h
      refine OpOk.pure (v := .func (.func f) (first.map a.eval) (caps.map a.eval)) hR ?_ ⟨_, _, rfl, v1sOf_arr hF hp, v1sOf_arr hF hq⟩
      simp only [execOp, ho, Sem.run_bind, Instr.makeFunc, Result.andThen_ok, Sem.run_pure]
    · cases h

theorem fieldAddr_sound {X : Cx} {τ : Tys} (hT : Agree X τ) {o : Oper} {F : List AV} {M : Mem} {a : Act} {w : World} {ρ : Nat → Value} {x : OR} {t : TypeId} {y : Operand} {f : Nat} (ho : o.op = .fieldAddr t y f)
    (h : aop τ o F M = some x) (hF : RelF X (envOf ρ M) F a.tmps.toList) (hR : Rep X ρ M w) : OpOk X o a w ρ M x := by
  unfold aop at h
  rw [ho] at h; simp only at h
  have hy := oe_rel hF y
  split at h
  · rename_i ti hti
    split at h
    · rename_i fi b i off hfi hoe
      obtain ⟨fs, fd, hd, hfd, hoff, hs, hpos⟩ := field_of (hT t ti hti) hfi
      cases hlv : live M b with
      | false => rw [hlv] at h; cases h
      | true =>
      rw [hlv] at h
      cases h
      rw [hoe] at hy
      obtain ⟨s, he⟩ := live_of (ρ := ρ) hlv
      simp only [RelA, RelV1, RelC, he] at hy
      cases s with
      | cells n =>
        obtain ⟨g, hu, hv, hi⟩ := hy
        refine OpOk.pure (v := .pointer (some ⟨g, off + fi.off, none⟩)) hR ?_ ?_
        · simp only [execOp, ho, Sem.run_bind, hv, run_fieldAt hd hfd hs hpos, hoff, Result.andThen_ok, Sem.run_pure]
        · simp only [RelA, RelV1, RelC, he]
          exact ⟨g, hu, rfl, hi⟩
      | row rt n =>
        obtain ⟨g, m, c, hu, hv, hi⟩ := hy
        refine OpOk.pure (v := .pointer (some ⟨g, i * rt.sz + (off + fi.off), none⟩)) hR ?_ ?_
        · simp only [execOp, ho, Sem.run_bind, hv, run_fieldAt hd hfd hs hpos, hoff, Result.andThen_ok, Sem.run_pure, Nat.add_assoc]
        · simp only [RelA, RelV1, RelC, he]
          exact ⟨g, m, c, hu, rfl, hi⟩
    · rename_i fi cs hfi hoe
      obtain ⟨fs, fd, hd, hfd, hoff, hs, hpos⟩ := field_of (hT t ti hti) hfi
      cases h
      rw [hoe] at hy
      obtain ⟨g, off, hv, hc⟩ := hy
      refine OpOk.pure (v := .pointer (some ⟨g, off + fi.off, none⟩)) hR ?_ ⟨g, off + fi.off, rfl, fun j c hj => ?_⟩
      · simp only [execOp, ho, Sem.run_bind, hv, run_fieldAt hd hfd hs hpos, hoff, Result.andThen_ok, Sem.run_pure]
      · rw [List.getElem?_drop] at hj
        obtain ⟨p, hp, hw⟩ := hc _ c hj
        exact ⟨p, hp, by rw [Nat.add_assoc]; exact hw⟩
    · cases h
  · cases h

theorem extract_sound {X : Cx} {τ : Tys} {o : Oper} {F : List AV} {M : Mem} {a : Act} {w : World} {ρ : Nat → Value} {x : OR} {y : Operand} {i : Nat} (ho : o.op = .extract y i)
    (h : aop τ o F M = some x) (hF : RelF X (envOf ρ M) F a.tmps.toList) (hR : Rep X ρ M w) : OpOk X o a w ρ M x := by
  unfold aop at h
  rw [ho] at h; simp only at h
  have hy := oe_rel hF y
  split at h
  · rename_i xs hoe
    rw [hoe] at hy
    obtain ⟨vs, hv, hr⟩ := hy
    split at h
    · rename_i z hz
      cases h
      obtain ⟨v, hvi, hrv⟩ := hr.get i z hz
      refine OpOk.pure (v := v) hR ?_ hrv
      rw [Array.getElem?_toList] at hvi
      simp only [execOp, ho, Sem.run_bind, hv, Instr.extract, hvi, Result.andThen_ok, Sem.run_pure]
    · cases h
  · cases h

theorem makeSlice_sound {X : Cx} {τ : Tys} (hT : Agree X τ) {o : Oper} {F : List AV} {M : Mem} {a : Act} {w : World} {ρ : Nat → Value} {x : OR} {t : TypeId} {y z : Operand} (ho : o.op = .makeSlice t y z)
    (h : aop τ o F M = some x) (hp : preOk x.pre) (hF : RelF X (envOf ρ M) F a.tmps.toList) (hR : Rep X ρ M w) : OpOk X o a w ρ M x := by
  unfold aop at h
  rw [ho] at h; simp only at h
  have hy := oe_rel hF y
  have hz := oe_rel hF z
  split at h
  · rename_i ti n m hti hn hm
    obtain ⟨ky, hyv⟩ := intOf_rel hn hy
    obtain ⟨kz, hzv⟩ := intOf_rel hm hz
    split at h
    · rename_i rt hel
      obtain ⟨hd, i, zv, hi, hsz, hzz, hzc, hby⟩ := elem_of (hT t ti hti) hel
      cases h
      obtain ⟨⟨h0, h1⟩, rfl⟩ := (hp : (0 ≤ n ∧ n ≤ 1048576) ∧ m = n)
      have hrun := run_make (P := X.P) w t (X.eid rt) i zv hd hi hzz ky kz m m h0 (Int.le_refl _)
        (by
          have h2 : (i.bytes : Int) ≤ 1000 := Int.ofNat_le.2 hby
          have h3 := Int.mul_le_mul h2 h1 h0 (by omega)
          omega) (by omega)
      have hlz : zv.cells.size = rt.sz := by have := congrArg List.length hzc; simpa [RTy.enc_length] using this
      have hmade : madeCells zv.cells (m.toNat * i.size) = Builtin.zeroCells zv.cells m.toNat := by
        simp [madeCells, Builtin.zeroCells, hlz, hsz]
      rw [hmade] at hrun
      have hzl := zeroCells_vals hzc m.toNat
      have hlen : (List.replicate m.toNat rt.zero).length = m.toNat := by simp
      refine row_ok (u := .slice (some ⟨w.heap.size, 0, none⟩) m.toNat m.toNat) (w' := w.alloc (.cells (Builtin.zeroCells zv.cells m.toNat) (X.eid rt))) hR ?_ (fun k hk => Lw.alloc_old w _ k hk) (by simp) rfl rfl rfl (fun E => ?_) (fun g hg => ?_)
      · simp only [execOp, ho, Sem.run_bind, hyv, hzv, hrun, Result.andThen_ok, Sem.run_pure]
      · have hb := repB_new (X := X) (E := E) (w := w.alloc (.cells (Builtin.zeroCells zv.cells m.toNat) (X.eid rt))) (t := rt) (xs := List.replicate m.toNat rt.zero) (g := w.heap.size) (cap := m.toNat) (cur := Builtin.zeroCells zv.cells m.toNat)
          (heap_alloc_new w _) (by rw [hlen]; exact Nat.le_refl _) (by have : maxLen = 9223372036854775807 := rfl; omega) (by simp [Builtin.zeroCells, hlz]) (by rw [hzl, hlen]; exact List.take_of_length_le (by rw [vals_length, hlen]; exact Nat.le_refl _))
        rw [hlen] at hb
        exact hb
      · cases hmm : m.toNat with
        | zero => rw [hmm] at hg; simp [blkOf] at hg
        | succ q => rw [hmm] at hg; simp [blkOf] at hg; omega
    · cases h
  · cases h

theorem builtin_sound {X : Cx} {τ : Tys} (hT : Agree X τ) {o : Oper} {F : List AV} {M : Mem} {a : Act} {w : World} {ρ : Nat → Value} {x : OR} {c : Go.Call} {b : Builtin} (ho : o.op = .call c) (hc : c.callee = .builtin b)
    (h : abuiltin τ F M b c.argTypes.toList (c.args.toList.map (oe F)) = some x) (hp : preOk x.pre) (hF : RelF X (envOf ρ M) F a.tmps.toList) (hR : Rep X ρ M w) : OpOk X o a w ρ M x := by
  generalize hargs : c.args.toList.map (oe F) = as at h
  generalize htys : c.argTypes.toList = ts at h
  unfold abuiltin at h
  split at h
  · -- len
    rename_i y
    obtain ⟨v, hv, hr⟩ := args1 hF hargs
    split at h
    · rename_i t tr
      have h0 := list1 htys
      split at h
      · rename_i ti hti
        have hA := hT t ti hti
        split at h
        · rename_i rt hel
          split at h
          · rename_i n hn
            cases h
            obtain ⟨ad, cc, rfl⟩ := lenOf_rel hR hn hr
            refine OpOk.pure (v := .int .i64 n) hR (execOp_builtin ho hc ?_) rfl
            rw [hv]
            simp [builtin, Builtin.len_, h0, run_underlying (elem_of hA hel).1, goInt]
          · cases h
        · split at h
          · rename_i s
            cases hst : ti.isStr with
            | false => rw [hst] at h; cases h
            | true =>
              rw [hst] at h; cases h
              have : v = .string s := hr
              subst this
              refine OpOk.pure (v := .int .i64 s.size) hR (execOp_builtin ho hc ?_) rfl
              rw [hv]
              simp [builtin, Builtin.len_, h0, run_underlying (hA.isStr hst), goInt]
          · cases h
      · cases h
    · cases h
  · -- min
    rename_i k y r
    split at h
    · rename_i n hn
      cases h
      have hm := map_eval hF c.args
      rw [hargs] at hm
      cases hvs : (c.args.map a.eval).toList with
      | nil => rw [hvs] at hm; exact hm.elim
      | cons v vs =>
        rw [hvs] at hm
        have hv0 := int_of hm.1
        subst hv0
        have hf := foldMM_run (P := X.P) (w := w) false hn hm.2
        simp only [Bool.false_eq_true, if_false] at hf
        refine OpOk.pure (v := .int k n) hR (execOp_builtin ho hc ?_) rfl
        simp only [builtin, Builtin.min_, hvs, Sem.run_bind, hf, Result.andThen_ok, Sem.run_pure]
    · cases h
  · -- max
    rename_i k y r
    split at h
    · rename_i n hn
      cases h
      have hm := map_eval hF c.args
      rw [hargs] at hm
      cases hvs : (c.args.map a.eval).toList with
      | nil => rw [hvs] at hm; exact hm.elim
      | cons v vs =>
        rw [hvs] at hm
        have hv0 := int_of hm.1
        subst hv0
        have hf := foldMM_run (P := X.P) (w := w) true hn hm.2
        simp only [if_true] at hf
        refine OpOk.pure (v := .int k n) hR (execOp_builtin ho hc ?_) rfl
        simp only [builtin, Builtin.max_, hvs, Sem.run_bind, hf, Result.andThen_ok, Sem.run_pure]
    · cases h
  · -- append, nothing there
    split at h
    · rename_i rt ht
      split at h
      · rename_i ys hs
        cases h
        subst htys
        exact append_es_sound hT ho hc hargs ht hs hp hF hR
      · cases h
    · cases h
  · split at h
    · rename_i rt ht
      split at h
      · rename_i zs ys hz hs
        cases h
        subst htys
        exact append_row_sound hT ho hc hargs ht hz hs hp hF hR
      · cases h
    · cases h
  · rename_i b k b' j m
    split at h
    · rename_i rt ht
      split at h
      · rename_i zs ys hz hs
        subst htys
        cases hb : Nat.beq b b' with
        | false => rw [hb] at h; cases h
        | true =>
          rw [hb] at h
          cases h
          have := Nat.eq_of_beq_eq_true hb
          subst this
          exact append_sub_sound hT ho hc hargs ht hz hs hp hF hR
      · cases h
    · cases h
  · -- copy
    split at h
    · rename_i t tr
      split at h
      · rename_i ti hti
        split at h
        · rename_i rt hel
          split at h
          · rename_i b zs lo len ys hd hs
            cases h
            exact copy_sound hT ho hc hargs htys hti hel hd hs hp hF hR
          · cases h
        · cases h
      · cases h
    · cases h
  · split at h
    · rename_i t tr
      split at h
      · rename_i ti hti
        split at h
        · rename_i rt hel
          split at h
          · rename_i b zs lo len hd
            cases h
            exact clear_sound hT ho hc hargs htys hti hel hd hp hF hR
          · cases h
        · cases h
      · cases h
    · cases h
  · cases h

theorem field_sound {X : Cx} {τ : Tys} (hT : Agree X τ) {o : Oper} {F : List AV} {M : Mem} {a : Act} {w : World} {ρ : Nat → Value} {x : OR} {t : TypeId} {y : Operand} {f : Nat} (ho : o.op = .field t y f)
    (h : aop τ o F M = some x) (hF : RelF X (envOf ρ M) F a.tmps.toList) (hR : Rep X ρ M w) : OpOk X o a w ρ M x := by
  unfold aop at h
  rw [ho] at h; simp only at h
  have hy := oe_rel hF y
  split at h
  · rename_i ti hti
    split at h
    · rename_i fi cs hfi hoe
      have hA := hT t ti hti
      obtain ⟨fs, fd, hd, hfd, hoff, hs, hpos⟩ := field_of hA hfi
      have hag := hA.fagg fs hd (by intro e; rw [e] at hfi; simp at hfi)
      have hag1 : (ti.flds.map (fun x : FI => some x.agg))[f]? = some (some fi.agg) := by simp [hfi]
      rw [← hag] at hag1
      simp only [List.getElem?_map, Array.getElem?_toList, hfd, Option.map_some, Option.some.injEq] at hag1
      cases hle : Nat.ble (fi.off + fi.sz) cs.length with
      | false => rw [hle] at h; cases h
      | true =>
      rw [hle] at h
      have hle := Nat.le_of_ble_eq_true hle
      simp only [cond_true] at h
      rw [hoe] at hy
      obtain ⟨us, hv, hcs⟩ := (hy : ∃ us : Array Value, a.eval y = .agg us ∧ RelCs X _ cs us.toList)
      have hpart : RelCs X (envOf ρ M) ((cs.drop fi.off).take fi.sz) ((us.toList.drop fi.off).take fi.sz) := (hcs.drop fi.off).take fi.sz
      obtain ⟨d, hdd, hda⟩ : ∃ d, X.P.underlying fd.type = some d ∧ aggD d = fi.agg := by
        cases hu : X.P.underlying fd.type with
        | none => rw [hu] at hag1; cases hag1
        | some d => rw [hu] at hag1; exact ⟨d, rfl, by simpa using hag1⟩
      obtain ⟨i, hi, hsz⟩ : ∃ i, X.P.info? fd.type = some i ∧ i.size = fi.sz := by
        cases hu : X.P.info? fd.type with
        | none => rw [hu] at hs; cases hs
        | some i => rw [hu] at hs; exact ⟨i, rfl, by simpa using hs⟩
      cases hfa : fi.agg with
      | true =>
        rw [hfa] at h hda
        cases h
        refine OpOk.pure (v := .agg (us.extract fi.off (fi.off + fi.sz))) hR ?_ ⟨_, rfl, ?_⟩
        · simp only [execOp, ho, Sem.run_bind, Instr.field, run_underlying hd, Result.andThen_ok, hfd, hv, asAgg, Sem.run_pure, part, isAgg, run_underlying hdd]
          cases d <;> simp only [aggD, Bool.false_eq_true] at hda <;> simp [run_sizeOf hs, hoff]
        · rw [Array.toList_extract]
          simpa [List.extract] using hpart
      | false =>
        rw [hfa] at h hda
        cases hc : (cs.drop fi.off).take fi.sz with
        | nil => rw [hc] at h; cases h
        | cons c r =>
          rw [hc] at h hpart
          cases r with
          | cons c' r => cases h
          | nil =>
            cases h
            have hu : ∃ u, us[fi.off]? = some u ∧ RelC X (envOf ρ M) c u := by
              cases hul : (us.toList.drop fi.off).take fi.sz with
              | nil => rw [hul] at hpart; exact hpart.elim
              | cons u ur =>
                rw [hul] at hpart
                refine ⟨u, ?_, hpart.1⟩
                have h0 : ((us.toList.drop fi.off).take fi.sz)[0]? = some u := by rw [hul]; rfl
                rw [List.getElem?_take, List.getElem?_drop] at h0
                split at h0
                · rw [← Array.getElem?_toList]; exact h0
                · rename_i hz; exact absurd hpos hz
            obtain ⟨u, hu, hru⟩ := hu
            refine OpOk.pure (v := u) hR ?_ hru
            simp only [execOp, ho, Sem.run_bind, Instr.field, run_underlying hd, Result.andThen_ok, hfd, hv, asAgg, Sem.run_pure, part, isAgg, run_underlying hdd]
            cases d <;> simp only [aggD, Bool.true_eq_false] at hda <;> simp [hoff, hu]
    · cases h
  · cases h

theorem aop_sound {X : Cx} {τ : Tys} (hT : Agree X τ) {o : Oper} {F : List AV} {M : Mem} {a : Act} {w : World} {ρ : Nat → Value} {x : OR}
    (h : aop τ o F M = some x) (hp : preOk x.pre) (hF : RelF X (envOf ρ M) F a.tmps.toList) (hR : Rep X ρ M w) : OpOk X o a w ρ M x := by
  cases ho : o.op
  case move y => exact move_sound (.inl ho) h hF hR
  case assign y => exact move_sound (.inr ho) h hF hR
  case pick c y z => exact pick_sound ho h hF hR
  case alloc t => exact alloc_sound hT ho h hF hR
  case box t y => exact boxOp_sound ho h hF hR
  case build t ps => exact build_sound hT ho h hF hR
  case buildSlice t n ps => exact buildSlice_sound hT ho h hF hR
  case load t y => exact load_sound hT ho h hF hR
  case store t y z => exact store_sound hT ho h hF hR
  case nilCheck y => exact nilCheck_sound ho h hF hR
  case binOp op t y z u => exact binOp_sound hT ho h hp hF hR
  case unOp op t y => exact unOp_sound ho h hF hR
  case convert s d y => exact convert_sound hT ho h hF hR
  case makeFunc fn p q => exact makeFunc_sound ho h hF hR
  case fieldAddr t y f => exact fieldAddr_sound hT ho h hF hR
  case field t y f => exact field_sound hT ho h hF hR
  case indexAddr t y z => exact indexAddr_sound hT ho h hp hF hR
  case extract y i => exact extract_sound ho h hF hR
  case slice t y lo hi mx => exact slice_sound hT ho h hp hF hR
  case makeSlice t y z => exact makeSlice_sound hT ho h hp hF hR
  case call c =>
    unfold aop at h
    rw [ho] at h
    simp only at h
    split at h
    · rename_i b hc
      exact builtin_sound hT ho hc h hp hF hR
    · cases h
  all_goals (unfold aop at h; rw [ho] at h; simp only at h; cases h)
end Lw
/- Parts of a memory under names of their own; what was done to a part, put back into the whole. -/
set_option linter.unusedVariables false
set_option linter.unusedSimpArgs false
namespace Lw
open Go

/-! ### 1. Only the blocks that are named count -/
def On (E E' : Env) (b : Nat) : Prop := E b = .out ∨ E' b = .dead ∨ E' b = E b

theorem RelC.on {X : Cx} {E E' : Env} {c : Cell} {v : Value} (hE : ∀ b ∈ c.ids, On E E' b) (h : RelC X E c v) : RelC X E' c v := by
  have h1 := h.one
  cases c <;> simp only [RelC] at h ⊢ <;> try exact h
  case ptr b i off =>
    rcases hE b (by simp [Cell.ids]) with k | k | k
    · rw [k] at h; exact h.elim
    · rw [k]; exact h1
    · rw [k]; exact h
  case row b =>
    rcases hE b (by simp [Cell.ids]) with k | k | k
    · rw [k] at h; exact h.elim
    · rw [k]; exact h1
    · rw [k]; exact h
  case sub b lo len =>
    rcases hE b (by simp [Cell.ids]) with k | k | k
    · rw [k] at h; exact h.elim
    · rw [k]; exact h1
    · rw [k]; exact h
theorem RelCs.on {X : Cx} {E E' : Env} : ∀ {cs : List Cell} {vs : List Value}, (∀ b ∈ cidsL cs, On E E' b) → RelCs X E cs vs → RelCs X E' cs vs
  | [], [], _, _ => trivial
  | c :: r, _ :: _, hE, h => ⟨h.1.on fun b hb => hE b (List.mem_append_left _ hb), RelCs.on (fun b hb => hE b (List.mem_append_right _ hb)) h.2⟩
  | [], _ :: _, _, h => h.elim
  | _ :: _, [], _, h => h.elim
theorem RelV1.on {X : Cx} {E E' : Env} {c : V1} {v : Value} (hE : ∀ b ∈ c.ids, On E E' b) (h : RelV1 X E c v) : RelV1 X E' c v := by
  cases c
  case c x => exact RelC.on hE h
  case agg xs => obtain ⟨cs, hv, hr⟩ := h; exact ⟨cs, hv, hr.on hE⟩
theorem RelV1s.on {X : Cx} {E E' : Env} : ∀ {cs : List V1} {vs : List Value}, (∀ b ∈ v1idsL cs, On E E' b) → RelV1s X E cs vs → RelV1s X E' cs vs
  | [], [], _, _ => trivial
  | c :: r, _ :: _, hE, h => ⟨h.1.on fun b hb => hE b (List.mem_append_left _ hb), RelV1s.on (fun b hb => hE b (List.mem_append_right _ hb)) h.2⟩
  | [], _ :: _, _, h => h.elim
  | _ :: _, [], _, h => h.elim
theorem RelA.on {X : Cx} {E E' : Env} {c : AV} {v : Value} (hE : ∀ b ∈ c.ids, On E E' b) (h : RelA X E c v) : RelA X E' c v := by
  cases c
  case one x => exact RelV1.on hE h
  case tup xs => obtain ⟨vs, hv, hr⟩ := h; exact ⟨vs, hv, hr.on hE⟩
  case fn f a b =>
    obtain ⟨a', b', hv, h1, h2⟩ := h
    exact ⟨a', b', hv, h1.on fun b hb => hE b (List.mem_append_left _ hb), h2.on fun b hb => hE b (List.mem_append_right _ hb)⟩
  case rop cs => exact h
  case undef => exact h
  case junk => trivial
theorem RelF.on {X : Cx} {E E' : Env} : ∀ {cs : List AV} {vs : List Value}, (∀ b ∈ avidsL cs, On E E' b) → RelF X E cs vs → RelF X E' cs vs
  | [], [], _, _ => trivial
  | c :: r, _ :: _, hE, h => ⟨h.1.on fun b hb => hE b (List.mem_append_left _ hb), RelF.on (fun b hb => hE b (List.mem_append_right _ hb)) h.2⟩
  | [], _ :: _, _, h => h.elim
  | _ :: _, [], _, h => h.elim
theorem RepB.on {X : Cx} {E E' : Env} {w w' : World} {u : Value} {x : Blk} (h : RepB X E w u x) (hE : ∀ b ∈ x.ids, On E E' b)
    (hh : (∃ vs, x = .cells vs) ∨ (∃ t xs, x = .row t xs) → ∀ g, blkOf u = some g → w'.heap[g]? = w.heap[g]?) : RepB X E' w' u x := by
  cases x
  case cells vs =>
    obtain ⟨g, cs, e, rfl, hg, hr⟩ := h
    exact ⟨g, cs, e, rfl, by rw [hh (.inl ⟨_, rfl⟩) g rfl]; exact hg, hr.on hE⟩
  case row t xs =>
    rcases h with h | ⟨g, cap, cur, rfl, hc, hg, h1, h2, h3, h4⟩
    · exact .inl h
    · refine .inr ⟨g, cap, cur, rfl, hc, ?_, h1, h2, h3, h4⟩
      obtain ⟨c, rfl⟩ : ∃ c, cap = c + 1 := ⟨cap - 1, by omega⟩
      rw [hh (.inr ⟨_, _, rfl⟩) g rfl]; exact hg
  case hidC n => exact h
  case hidR t n => exact h
  case dead => trivial
theorem RepB_map {X : Cx} {E : Env} {σ : Nat → Nat} {w : World} {u : Value} (x : Blk) : RepB X E w u (x.map σ) ↔ RepB X (fun b => E (σ b)) w u x := by
  cases x
  case cells vs => exact exists_congr fun g => exists_congr fun cs => exists_congr fun e => and_congr Iff.rfl (and_congr Iff.rfl (RelCs_map vs cs.toList))
  all_goals exact Iff.rfl

/-! ### 2. A memory as a table of its blocks -/
def Vis (x : Blk) : Prop := (∃ vs, x = .cells vs) ∨ (∃ t xs, x = .row t xs)
def OwnsF (ρ : Nat → Value) (m : Nat → Option Blk) (b g : Nat) : Prop := ∃ x, m b = some x ∧ Vis x ∧ blkOf (ρ b) = some g
def envF (ρ : Nat → Value) (m : Nat → Option Blk) : Env := fun b => match m b with
  | none => .out
  | some x => match x.shape with
    | some s => .ent (ρ b) s
    | none => .dead
def tab (M : Mem) (b : Nat) : Option Blk := M[b]?
structure RepE (X : Cx) (E : Env) (ρ : Nat → Value) (m : Nat → Option Blk) (w : World) : Prop where
  blk : ∀ b x, m b = some x → RepB X E w (ρ b) x
  sep : ∀ b b' g, OwnsF ρ m b g → OwnsF ρ m b' g → b = b'
  base : ∀ b g, OwnsF ρ m b g → X.W0.heap.size ≤ g
  ro : ∀ k, k < X.W0.heap.size → w.heap[k]? = X.W0.heap[k]?
  sz : X.W0.heap.size ≤ w.heap.size

theorem owns_cases {ρ : Nat → Value} {M : Mem} {b g : Nat} (h : Owns ρ M b g) : ∃ x, M[b]? = some x ∧ ((∃ vs, x = .cells vs) ∨ (∃ t xs, x = .row t xs)) ∧ blkOf (ρ b) = some g := by
  unfold Owns at h
  split at h
  · rename_i vs hb; exact ⟨_, hb, .inl ⟨_, rfl⟩, h⟩
  · rename_i t xs hb; exact ⟨_, hb, .inr ⟨_, _, rfl⟩, h⟩
  · exact h.elim
theorem owns_of {ρ : Nat → Value} {M : Mem} {b g : Nat} {x : Blk} (hb : M[b]? = some x) (hx : (∃ vs, x = .cells vs) ∨ (∃ t xs, x = .row t xs)) (hg : blkOf (ρ b) = some g) : Owns ρ M b g := by
  unfold Owns
  rcases hx with ⟨vs, rfl⟩ | ⟨t, xs, rfl⟩ <;> rw [hb] <;> exact hg
theorem owns_tab {ρ : Nat → Value} {M : Mem} {b g : Nat} : OwnsF ρ (tab M) b g ↔ Owns ρ M b g := by
  constructor
  · rintro ⟨x, hx, hv, hg⟩; exact owns_of hx hv hg
  · intro h
    obtain ⟨x, hx, hv, hg⟩ := owns_cases h
    exact ⟨x, hx, hv, hg⟩
theorem env_tab (ρ : Nat → Value) (M : Mem) : envF ρ (tab M) = envOf ρ M := rfl
theorem Rep.toE {X : Cx} {ρ : Nat → Value} {M : Mem} {w : World} (h : Rep X ρ M w) : RepE X (envOf ρ M) ρ (tab M) w :=
  ⟨h.blk, fun b b' g h1 h2 => h.sep b b' g (owns_tab.1 h1) (owns_tab.1 h2), fun b g h1 => h.base b g (owns_tab.1 h1), h.ro, h.sz⟩
theorem RepE.rep {X : Cx} {ρ : Nat → Value} {M : Mem} {w : World} (h : RepE X (envOf ρ M) ρ (tab M) w) : Rep X ρ M w :=
  ⟨h.blk, fun b b' g h1 h2 => h.sep b b' g (owns_tab.2 h1) (owns_tab.2 h2), fun b g h1 => h.base b g (owns_tab.2 h1), h.ro, h.sz⟩

theorem RepE.lt {X : Cx} {E : Env} {ρ : Nat → Value} {m : Nat → Option Blk} {w : World} (h : RepE X E ρ m w) {b g : Nat} (ho : OwnsF ρ m b g) : g < w.heap.size := by
  obtain ⟨x, hb, hx, hg⟩ := ho
  rcases hx with ⟨vs, rfl⟩ | ⟨t, xs, rfl⟩
  · obtain ⟨g', cs, e, hu, hg', _⟩ := h.blk b _ hb
    rw [hu] at hg
    have : g' = g := by simpa [blkOf] using hg
    subst this
    exact (Array.getElem?_eq_some_iff.1 hg').1
  · rcases h.blk b _ hb with ⟨_, a, hu⟩ | ⟨g', cap, cur, hu, hc, hg', _⟩
    · rw [hu] at hg
      cases a <;> simp [blkOf] at hg
    · rw [hu] at hg
      obtain ⟨c, rfl⟩ : ∃ c, cap = c + 1 := ⟨cap - 1, by omega⟩
      have : g' = g := by simpa [blkOf] using hg
      subst this
      exact (Array.getElem?_eq_some_iff.1 hg').1

structure ExtF (w : World) (ρ : Nat → Value) (m : Nat → Option Blk) (w' : World) (ρ' : Nat → Value) (m' : Nat → Option Blk) : Prop where
  os : w'.os = w.os
  tape : w'.tape = w.tape
  output : w'.output = w.output
  size : w.heap.size ≤ w'.heap.size
  frame : ∀ k, k < w.heap.size → (∀ b, ¬ OwnsF ρ m b k) → w'.heap[k]? = w.heap[k]?
  own : ∀ b g, OwnsF ρ' m' b g → (∃ b', OwnsF ρ m b' g) ∨ w.heap.size ≤ g
theorem ExtF.trans {w w' w'' : World} {ρ ρ' ρ'' : Nat → Value} {m m' m'' : Nat → Option Blk} (h : ExtF w ρ m w' ρ' m') (k : ExtF w' ρ' m' w'' ρ'' m'') : ExtF w ρ m w'' ρ'' m'' := by
  refine ⟨k.os.trans h.os, k.tape.trans h.tape, k.output.trans h.output, Nat.le_trans h.size k.size, fun i hi hn => ?_, fun b g hg => ?_⟩
  · rw [k.frame i (Nat.lt_of_lt_of_le hi h.size) (fun b hb => ?_), h.frame i hi hn]
    rcases h.own b i hb with ⟨b', hb'⟩ | hlt
    · exact hn b' hb'
    · omega
  · rcases k.own b g hg with ⟨b', hb'⟩ | hlt
    · exact h.own b' g hb'
    · exact .inr (Nat.le_trans h.size hlt)
theorem Ext.toF {w w' : World} {ρ ρ' : Nat → Value} {M M' : Mem} (h : Ext w ρ M w' ρ' M') : ExtF w ρ (tab M) w' ρ' (tab M') :=
  ⟨h.os, h.tape, h.output, h.size, fun k hk hn => h.frame k hk fun b hb => hn b (owns_tab.2 hb), fun b g hg => (h.own b g (owns_tab.1 hg)).imp (fun ⟨c, hc⟩ => ⟨c, owns_tab.2 hc⟩) id⟩
theorem ExtF.ext {w w' : World} {ρ ρ' : Nat → Value} {M M' : Mem} (h : ExtF w ρ (tab M) w' ρ' (tab M')) (hl : M.length ≤ M'.length) (hk : (envOf ρ M).to (envOf ρ' M')) : Ext w ρ M w' ρ' M' :=
  ⟨hl, h.os, h.tape, h.output, h.size, fun k hk' hn => h.frame k hk' fun b hb => hn b (owns_tab.1 hb), fun b g hg => (h.own b g (owns_tab.2 hg)).imp (fun ⟨c, hc⟩ => ⟨c, owns_tab.1 hc⟩) id, hk⟩

/-! ### 3. What was done to a part -/
/-- `L` is a part of `m`, `σ` the names of its blocks in `m`; `L'` and `m'` are what they have become. -/
structure Part (E E' : Env) (ρ ρ' ρL ρL' : Nat → Value) (m m' : Nat → Option Blk) (L L' : Mem) (σ : Nat → Nat) : Prop where
  was : ∀ l g, Owns ρL L l g → OwnsF ρ m (σ l) g
  is : ∀ b x, m' b = some x → (∃ l y, σ l = b ∧ L'[l]? = some y ∧ x = y.map σ ∧ ρ' b = ρL' l ∧ ∀ c ∈ y.ids, On (envOf ρL' L') (fun l => E' (σ l)) c) ∨ (m b = some x ∧ ρ' b = ρ b ∧ ∀ l g, Owns ρL L l g → σ l ≠ b)
  old : ∀ b, On E E' b

theorem shape_map_vis {x y : Blk} {σ : Nat → Nat} (h : x = y.map σ) (hx : (∃ vs, x = .cells vs) ∨ (∃ t xs, x = .row t xs)) : (∃ vs, y = .cells vs) ∨ (∃ t xs, y = .row t xs) := by
  cases y <;> simp [Blk.map] at h ⊢ <;> subst h <;> simp at hx

theorem Part.owns {E E' : Env} {ρ ρ' ρL ρL' : Nat → Value} {m m' : Nat → Option Blk} {L L' : Mem} {σ : Nat → Nat} (hP : Part E E' ρ ρ' ρL ρL' m m' L L' σ) {b g : Nat} (ho : OwnsF ρ' m' b g) :
    (∃ l, σ l = b ∧ Owns ρL' L' l g) ∨ (OwnsF ρ m b g ∧ ∀ l g, Owns ρL L l g → σ l ≠ b) := by
  obtain ⟨x, hb, hx, hg⟩ := ho
  rcases hP.is b x hb with ⟨l, y, hl, hy, hxy, hρ, _⟩ | ⟨hM, hρ, hn⟩
  · exact .inl ⟨l, hl, owns_of hy (shape_map_vis hxy hx) (hρ ▸ hg)⟩
  · exact .inr ⟨⟨x, hM, hx, hρ ▸ hg⟩, hn⟩

theorem Part.rep {X : Cx} {E E' : Env} {ρ ρ' ρL ρL' : Nat → Value} {m m' : Nat → Option Blk} {L L' : Mem} {σ : Nat → Nat} {w w' : World} (hP : Part E E' ρ ρ' ρL ρL' m m' L L' σ)
    (hR : RepE X E ρ m w) (hL' : Rep X ρL' L' w') (hE : Ext w ρL L w' ρL' L') : RepE X E' ρ' m' w' := by
  refine ⟨?_, ?_, ?_, hL'.ro, hL'.sz⟩
  · intro b x hb
    rcases hP.is b x hb with ⟨l, y, hl, hy, hxy, hρ, henv⟩ | ⟨hM, hρ, hn⟩
    · rw [hρ, hxy, RepB_map]
      exact (hL'.blk l y hy).on henv (fun _ _ _ => rfl)
    · rw [hρ]
      refine (hR.blk b x hM).on (fun c _ => hP.old c) (fun hx g hg => ?_)
      have ho : OwnsF ρ m b g := ⟨x, hM, hx, hg⟩
      refine hE.frame g (hR.lt ho) (fun l hl => ?_)
      exact hn l g hl (hR.sep _ _ g (hP.was l g hl) ho)
  · intro b b' g h h'
    rcases hP.owns h with ⟨l, hl, ho⟩ | ⟨ho, hn⟩ <;> rcases hP.owns h' with ⟨l', hl', ho'⟩ | ⟨ho', hn'⟩
    · have := hL'.sep l l' g ho ho'
      rw [← hl, ← hl', this]
    · rcases hE.own l g ho with ⟨c, hc⟩ | hlt
      · exact absurd (hR.sep _ _ g (hP.was c g hc) ho') (hn' c g hc)
      · have := hR.lt ho'; omega
    · rcases hE.own l' g ho' with ⟨c, hc⟩ | hlt
      · exact absurd (hR.sep _ _ g (hP.was c g hc) ho) (hn c g hc)
      · have := hR.lt ho; omega
    · exact hR.sep b b' g ho ho'
  · intro b g h
    rcases hP.owns h with ⟨l, hl, ho⟩ | ⟨ho, hn⟩
    · exact hL'.base l g ho
    · exact hR.base b g ho

theorem Part.ext {E E' : Env} {ρ ρ' ρL ρL' : Nat → Value} {m m' : Nat → Option Blk} {L L' : Mem} {σ : Nat → Nat} {w w' : World} (hP : Part E E' ρ ρ' ρL ρL' m m' L L' σ)
    (hE : Ext w ρL L w' ρL' L') : ExtF w ρ m w' ρ' m' := by
  refine ⟨hE.os, hE.tape, hE.output, hE.size, fun k hk hn => ?_, fun b g ho => ?_⟩
  · exact hE.frame k hk fun l hl => hn _ (hP.was l k hl)
  · rcases hP.owns ho with ⟨l, hl, hol⟩ | ⟨hob, _⟩
    · rcases hE.own l g hol with ⟨c, hc⟩ | hlt
      · exact .inl ⟨_, hP.was c g hc⟩
      · exact .inr hlt
    · exact .inl ⟨b, hob⟩
end Lw
/- Calls: what a summary says of a function holds of a call of it. -/
set_option linter.unusedVariables false
set_option linter.unusedSimpArgs false
namespace Lw
open Go

/-! ### 1. Names -/
theorem memN_iff {b : Nat} : ∀ {l : List Nat}, memN b l = true ↔ b ∈ l
  | [] => by simp [memN]
  | x :: r => by
    unfold memN
    cases h : Nat.beq x b with
    | true => have := Nat.eq_of_beq_eq_true h; simp [this]
    | false =>
      have : x ≠ b := fun e => by subst e; simp at h
      simp only [cond_false, List.mem_cons, memN_iff]
      constructor
      · exact .inr
      · rintro (rfl | h')
        · exact absurd rfl this
        · exact h'
theorem allIn_iff {sel : List Nat} : ∀ {l : List Nat}, allIn sel l = true ↔ ∀ b ∈ l, b ∈ sel
  | [] => by simp [allIn]
  | x :: r => by simp [allIn, allIn_iff (l := r), memN_iff]
theorem closedIn_iff {M : Mem} {sel : List Nat} : ∀ {l : List Nat}, closedIn M sel l = true → ∀ b ∈ l, live M b = true ∧ b < M.length ∧ ∀ c ∈ (M.at b).ids, c ∈ sel
  | [], _, b, hb => by simp at hb
  | x :: r, h, b, hb => by
    simp only [closedIn, Bool.and_eq_true] at h
    obtain ⟨h1, h2, h3, h4⟩ := h
    rcases List.mem_cons.1 hb with rfl | hb
    · exact ⟨h1, by simpa [Nat.blt_eq] using h2, allIn_iff.1 h3⟩
    · exact closedIn_iff h4 b hb
theorem nodupN_iff : ∀ {l : List Nat}, nodupN l = true → l.Nodup
  | [], _ => List.nodup_nil
  | x :: r, h => by
    simp only [nodupN, Bool.and_eq_true, Bool.not_eq_true'] at h
    refine List.nodup_cons.2 ⟨fun hm => ?_, nodupN_iff h.2⟩
    rw [memN_iff.2 hm] at h; cases h.1
theorem inv_go {b : Nat} : ∀ (l : List Nat) (k : Nat), (b ∈ l ∧ ∃ i, inv.go b k l = k + i ∧ l[i]? = some b) ∨ (b ∉ l ∧ inv.go b k l = k + l.length + b)
  | [], k => .inr ⟨by simp, by simp [inv.go]⟩
  | x :: r, k => by
    unfold inv.go
    cases h : Nat.beq x b with
    | true =>
      have := Nat.eq_of_beq_eq_true h
      subst this
      exact .inl ⟨by simp, 0, by simp, by simp⟩
    | false =>
      have hne : x ≠ b := fun e => by subst e; simp at h
      simp only [cond_false]
      rcases inv_go r (k + 1) with ⟨hm, i, hi, hg⟩ | ⟨hm, hi⟩
      · exact .inl ⟨List.mem_cons_of_mem _ hm, i + 1, by rw [hi]; omega, by simpa using hg⟩
      · exact .inr ⟨by simp [Ne.symm hne, hm], by rw [hi]; simp; omega⟩
theorem inv_mem {sel : List Nat} {b : Nat} (h : b ∈ sel) : sel[inv sel b]? = some b := by
  unfold inv
  rcases inv_go (b := b) sel 0 with ⟨_, i, hi, hg⟩ | ⟨hn, _⟩
  · rw [hi]; simpa using hg
  · exact absurd h hn
theorem inv_not {sel : List Nat} {b : Nat} (h : b ∉ sel) : inv sel b = sel.length + b := by
  unfold inv
  rcases inv_go (b := b) sel 0 with ⟨hm, _⟩ | ⟨_, hi⟩
  · exact absurd hm h
  · rw [hi]; omega
theorem inv_lt {sel : List Nat} {b : Nat} (h : b ∈ sel) : inv sel b < sel.length := (List.getElem?_eq_some_iff.1 (inv_mem h)).1
theorem back_lt {sel : List Nat} {L i b : Nat} (h : sel[i]? = some b) : back sel L i = b := by
  have hi : i < sel.length := (List.getElem?_eq_some_iff.1 h).1
  unfold back
  rw [show Nat.blt i sel.length = true from by simpa [Nat.blt_eq] using hi]
  simp [List.getD_eq_getElem?_getD, h]
theorem back_ge {sel : List Nat} {L i : Nat} (h : sel.length ≤ i) : back sel L i = L + (i - sel.length) := by
  unfold back
  rw [show Nat.blt i sel.length = false from by
    cases hb : Nat.blt i sel.length with
    | false => rfl
    | true => simp [Nat.blt_eq] at hb; omega]
  rfl
theorem back_inv {sel : List Nat} {L b : Nat} (h : b ∈ sel) : back sel L (inv sel b) = b := back_lt (inv_mem h)
theorem inv_back {sel : List Nat} {L i : Nat} (hn : sel.Nodup) (hi : i < sel.length) : inv sel (back sel L i) = i := by
  have h1 : sel[i]? = some sel[i] := List.getElem?_eq_getElem hi
  rw [back_lt h1]
  have h2 := inv_mem (List.getElem_mem hi)
  exact ((List.getElem?_inj (inv_lt (List.getElem_mem hi)) hn).1 (h2.trans h1.symm))

/-! ### 2. Renaming to and fro -/
theorem Cell.map_on {σ : Nat → Nat} {c : Cell} (h : ∀ b ∈ c.ids, σ b = b) : c.map σ = c := by
  cases c <;> simp [Cell.map, Cell.ids] at h ⊢ <;> exact h
theorem Cells.map_on {σ : Nat → Nat} : ∀ {cs : List Cell}, (∀ b ∈ cidsL cs, σ b = b) → cs.map (Cell.map σ) = cs
  | [], _ => rfl
  | c :: r, h => by
    rw [List.map_cons, Cell.map_on fun b hb => h b (List.mem_append_left _ hb), Cells.map_on fun b hb => h b (List.mem_append_right _ hb)]
theorem Cell.map_map (σ τ : Nat → Nat) (c : Cell) : (c.map σ).map τ = c.map (fun b => τ (σ b)) := by cases c <;> rfl
theorem Blk.map_map (σ τ : Nat → Nat) (x : Blk) : (x.map σ).map τ = x.map (fun b => τ (σ b)) := by
  cases x <;> simp [Blk.map, Cell.map_map]
theorem Blk.map_on {σ : Nat → Nat} {x : Blk} (h : ∀ b ∈ x.ids, σ b = b) : x.map σ = x := by
  cases x <;> simp only [Blk.map]
  case cells vs => rw [Cells.map_on h]

/-! ### 3. Writing back -/
theorem writeBack_length : ∀ (sel : List Nat) (xs : List Blk) (M : Mem), (writeBack M sel xs).length = M.length
  | [], [], M => rfl
  | [], _ :: _, M => rfl
  | _ :: _, [], M => rfl
  | b :: r, x :: s, M => by rw [writeBack, writeBack_length r s]; simp
theorem writeBack_other : ∀ {sel : List Nat} {xs : List Blk} {M : Mem} {b : Nat}, b ∉ sel → (writeBack M sel xs)[b]? = M[b]?
  | [], [], M, b, _ => rfl
  | [], _ :: _, M, b, _ => rfl
  | _ :: _, [], M, b, _ => rfl
  | c :: r, x :: s, M, b, h => by
    simp only [List.mem_cons, not_or] at h
    rw [writeBack, writeBack_other h.2, get_set_other h.1]
theorem writeBack_get : ∀ {sel : List Nat} {xs : List Blk} {M : Mem} {i b : Nat} {x : Blk}, sel.Nodup → sel[i]? = some b → xs[i]? = some x → b < M.length → (writeBack M sel xs)[b]? = some x
  | [], _, M, i, b, x, _, h, _, _ => by simp at h
  | _ :: _, [], M, i, b, x, _, _, h, _ => by simp at h
  | c :: r, y :: s, M, 0, b, x, hn, h, hx, hb => by
    simp at h hx
    subst h; subst hx
    rw [writeBack, writeBack_other (List.nodup_cons.1 hn).1]
    simp [hb]
  | c :: r, y :: s, M, i + 1, b, x, hn, h, hx, hb => by
    rw [writeBack]
    exact writeBack_get (List.nodup_cons.1 hn).2 (by simpa using h) (by simpa using hx) (by simpa using hb)

/-! ### 4. What a summary promises -/
def outM (M : Mem) (r : SR) : Mem := r.upd.getD M ++ r.new
def Enters (P : Program) (f : FuncId) : Prop := ∃ fn, P.funcs[f]? = some fn ∧ fn.name ≠ "runtime.NumGoroutine" ∧ fn.body.isSome = true
structure Holds (P : Program) (eid : RTy → TypeId) (f : FuncId) (S : Summ) : Prop where
  enters : Enters P f
  upd : ∀ xs M t, S xs M = some t → ∀ l, t.ev.upd = some l → l.length = M.length
  run : ∀ (W0 : World) (ρ : Nat → Value) (w : World) (xs : List AV) (M : Mem) (vs : Array Value) (t : BT SR), S xs M = some t → preOk t.ev.pre →
    Rep ⟨P, W0, eid⟩ ρ M w → RelF ⟨P, W0, eid⟩ (envOf ρ M) xs vs.toList →
    Calls P f vs w fun e w' => ∃ v ρ', e = .returned v ∧ RelA ⟨P, W0, eid⟩ (envOf ρ' (outM M t.ev)) t.ev.val v ∧ Rep ⟨P, W0, eid⟩ ρ' (outM M t.ev) w' ∧ Ext w ρ M w' ρ' (outM M t.ev)
def GamOk (P : Program) (eid : RTy → TypeId) (Γ : Gam) : Prop := ∀ f S, Γ f = some S → Holds P eid f S

theorem BT.ev_map {α β : Type} (f : α → β) : ∀ t : BT α, (t.map f).ev = f t.ev
  | .leaf r => rfl
  | .br c a b => by cases c <;> simp [BT.map, BT.ev, BT.ev_map f a, BT.ev_map f b]

theorem env_some {ρ : Nat → Value} {M : Mem} {b : Nat} {x : Blk} (h : M[b]? = some x) : envOf ρ M b = match x.shape with
    | some s => .ent (ρ b) s
    | none => .dead := by
  simp only [envOf, h]
  cases x.shape <;> rfl
theorem env_none {ρ : Nat → Value} {M : Mem} {b : Nat} (h : M[b]? = none) : envOf ρ M b = .out := by
  simp only [envOf, h]

/-- The part that is handed over. -/
def partM (M : Mem) (sel : List Nat) : Mem := sel.map fun b => (M.at b).map (inv sel)
def partR (ρ : Nat → Value) (sel : List Nat) (l : Nat) : Value := ρ (sel.getD l 0)

theorem partM_get {M : Mem} {sel : List Nat} {i b : Nat} (h : sel[i]? = some b) : (partM M sel)[i]? = some ((M.at b).map (inv sel)) := by simp [partM, h]
theorem partR_get {ρ : Nat → Value} {sel : List Nat} {i b : Nat} (h : sel[i]? = some b) : partR ρ sel i = ρ b := by simp [partR, List.getD_eq_getElem?_getD, h]
theorem at_get {M : Mem} {b : Nat} (h : b < M.length) : M[b]? = some (M.at b) := by
  simp [Mem.at, List.getD_eq_getElem?_getD, List.getElem?_eq_getElem h]
theorem part_env {ρ : Nat → Value} {M : Mem} {sel : List Nat} {b : Nat} (hb : b ∈ sel) (hlt : b < M.length) : envOf (partR ρ sel) (partM M sel) (inv sel b) = envOf ρ M b := by
  rw [env_some (partM_get (inv_mem hb)), env_some (at_get hlt), Blk.shape_map, partR_get (inv_mem hb)]
theorem part_owns {ρ : Nat → Value} {M : Mem} {sel : List Nat} (hlt : ∀ b ∈ sel, b < M.length) {l g : Nat} (ho : Owns (partR ρ sel) (partM M sel) l g) : ∃ b, sel[l]? = some b ∧ Owns ρ M b g := by
  obtain ⟨x, hx, hv, hg⟩ := owns_cases ho
  have hl : l < sel.length := by
    have := (List.getElem?_eq_some_iff.1 hx).1
    simpa [partM] using this
  have hs : sel[l]? = some sel[l] := List.getElem?_eq_getElem hl
  rw [partM_get hs] at hx
  cases hx
  rw [partR_get hs] at hg
  exact ⟨_, hs, owns_of (at_get (hlt _ (List.getElem_mem hl))) (shape_map_vis rfl hv) hg⟩

theorem part_rep {X : Cx} {ρ : Nat → Value} {M : Mem} {w : World} {sel : List Nat} (hR : Rep X ρ M w) (hn : sel.Nodup) (hc : ∀ b ∈ sel, live M b = true ∧ b < M.length ∧ ∀ c ∈ (M.at b).ids, c ∈ sel) :
    Rep X (partR ρ sel) (partM M sel) w := by
  have hlt : ∀ b ∈ sel, b < M.length := fun b hb => (hc b hb).2.1
  refine ⟨?_, ?_, ?_, hR.ro, hR.sz⟩
  · intro l x hx
    have hl : l < sel.length := by
      have := (List.getElem?_eq_some_iff.1 hx).1
      simpa [partM] using this
    have hs : sel[l]? = some sel[l] := List.getElem?_eq_getElem hl
    have hm := List.getElem_mem hl
    rw [partM_get hs] at hx
    cases hx
    rw [partR_get hs, RepB_map]
    refine (hR.blk _ _ (at_get (hlt _ hm))).on (fun c hcm => ?_) (fun _ _ _ => rfl)
    have hcs := (hc _ hm).2.2 c hcm
    exact .inr (.inr (part_env hcs (hlt c hcs)))
  · intro l l' g h h'
    obtain ⟨b, hb, ho⟩ := part_owns hlt h
    obtain ⟨b', hb', ho'⟩ := part_owns hlt h'
    have := hR.sep b b' g ho ho'
    subst this
    exact (List.getElem?_inj (List.getElem?_eq_some_iff.1 hb).1 hn).1 (hb.trans hb'.symm)
  · intro l g h
    obtain ⟨b, hb, ho⟩ := part_owns hlt h
    exact hR.base b g ho

theorem part_args {X : Cx} {ρ : Nat → Value} {M : Mem} {sel : List Nat} {xs : List AV} {vs : List Value} (hF : RelF X (envOf ρ M) xs vs) (ha : ∀ b ∈ avidsL xs, b ∈ sel) (hlt : ∀ b ∈ sel, b < M.length) :
    RelF X (envOf (partR ρ sel) (partM M sel)) (xs.map (AV.map (inv sel))) vs :=
  (RelF_map xs vs).2 (hF.on fun b hb => .inr (.inr (part_env (ha b hb) (hlt b (ha b hb)))))

/-- The blocks' values behind the call. -/
def joinR (ρ ρL' : Nat → Value) (M : Mem) (sel : List Nat) (b : Nat) : Value :=
  if b < M.length then (if b ∈ sel then ρL' (inv sel b) else ρ b) else ρL' (sel.length + (b - M.length))

theorem join_part {ρ ρL' : Nat → Value} {M : Mem} {sel : List Nat} {w w' : World} {r : SR} (hn : sel.Nodup) (hc : ∀ b ∈ sel, live M b = true ∧ b < M.length ∧ ∀ c ∈ (M.at b).ids, c ∈ sel)
    (hu : ∀ l, r.upd = some l → l.length = sel.length) (hE : Ext w (partR ρ sel) (partM M sel) w' ρL' (outM (partM M sel) r)) :
    Part (envOf ρ M) (envOf (joinR ρ ρL' M sel) (outOf M sel r).mem) ρ (joinR ρ ρL' M sel) (partR ρ sel) ρL' (tab M) (tab (outOf M sel r).mem) (partM M sel) (outM (partM M sel) r) (back sel M.length) ∧
      M.length ≤ (outOf M sel r).mem.length ∧ ∀ l, On (envOf ρL' (outM (partM M sel) r)) (fun l => envOf (joinR ρ ρL' M sel) (outOf M sel r).mem (back sel M.length l)) l := by
  have hlt : ∀ b ∈ sel, b < M.length := fun b hb => (hc b hb).2.1
  have hpl : (partM M sel).length = sel.length := by simp [partM]
  have hbase : (r.upd.getD (partM M sel)).length = sel.length := by
    cases hq : r.upd with
    | none => simpa using hpl
    | some l => simpa using hu l hq
  -- the memory behind the call, block by block
  have hlen : (outOf M sel r).mem.length = M.length + r.new.length := by
    unfold outOf
    cases hq : r.upd with
    | none => simp
    | some l => simp [writeBack_length]
  have hnew : ∀ (i : Nat) (y : Blk), r.new[i]? = some y → (outOf M sel r).mem[M.length + i]? = some (y.map (back sel M.length)) := by
    intro i y hy
    unfold outOf
    cases hq : r.upd with
    | none => simp [List.getElem?_append_right, hy]
    | some l =>
      simp only
      rw [List.getElem?_append_right (by rw [writeBack_length]; omega), writeBack_length]
      simp [hy]
  have hold : ∀ b, b < M.length → b ∉ sel → (outOf M sel r).mem[b]? = M[b]? := by
    intro b hb hns
    unfold outOf
    cases hq : r.upd with
    | none => simp [List.getElem?_append_left hb]
    | some l =>
      simp only
      rw [List.getElem?_append_left (by rw [writeBack_length]; exact hb), writeBack_other hns]
  have hsel : ∀ (i b : Nat) (y : Blk), sel[i]? = some b → (r.upd.getD (partM M sel))[i]? = some y → (outOf M sel r).mem[b]? = some (y.map (back sel M.length)) := by
    intro i b y hb hy
    have hm := List.mem_of_getElem? hb
    unfold outOf
    cases hq : r.upd with
    | none =>
      rw [hq] at hy
      have hy : (partM M sel)[i]? = some y := hy
      rw [partM_get hb] at hy
      cases hy
      simp only
      rw [List.getElem?_append_left (hlt b hm), Blk.map_map, Blk.map_on (fun c hcm => back_inv ((hc b hm).2.2 c hcm)), at_get (hlt b hm)]
    | some l =>
      rw [hq] at hy
      have hy : l[i]? = some y := hy
      simp only
      rw [List.getElem?_append_left (by rw [writeBack_length]; exact hlt b hm)]
      exact writeBack_get hn hb (by simp [hy]) (hlt b hm)
  -- by the part's own names
  have hfwd : ∀ (l : Nat) (y : Blk), (outM (partM M sel) r)[l]? = some y → (outOf M sel r).mem[back sel M.length l]? = some (y.map (back sel M.length)) ∧ joinR ρ ρL' M sel (back sel M.length l) = ρL' l := by
    intro l y hy
    unfold outM at hy
    by_cases hl : l < sel.length
    · rw [List.getElem?_append_left (by rw [hbase]; exact hl)] at hy
      have hs : sel[l]? = some sel[l] := List.getElem?_eq_getElem hl
      have hm := List.getElem_mem hl
      refine ⟨by rw [back_lt hs]; exact hsel l _ y hs hy, ?_⟩
      have hi := inv_back (L := M.length) hn hl
      rw [back_lt hs] at hi ⊢
      simp only [joinR, hlt _ hm, hm, if_true, hi]
    · have hl' : sel.length ≤ l := Nat.le_of_not_lt hl
      rw [List.getElem?_append_right (by rw [hbase]; exact hl'), hbase] at hy
      rw [back_ge hl']
      refine ⟨hnew _ y hy, ?_⟩
      simp only [joinR]
      rw [if_neg (by omega)]
      congr 1; omega
  have henv : ∀ l, On (envOf ρL' (outM (partM M sel) r)) (fun l => envOf (joinR ρ ρL' M sel) (outOf M sel r).mem (back sel M.length l)) l := by
    intro l
    cases hy : (outM (partM M sel) r)[l]? with
    | none => exact .inl (env_none hy)
    | some y =>
      obtain ⟨h1, h2⟩ := hfwd l y hy
      refine .inr (.inr ?_)
      show envOf _ _ (back sel M.length l) = _
      rw [env_some h1, env_some hy, Blk.shape_map, h2]
  refine ⟨⟨?_, ?_, ?_⟩, by omega, henv⟩
  · intro l g ho
    obtain ⟨b, hb, hob⟩ := part_owns hlt ho
    rw [back_lt hb]; exact owns_tab.2 hob
  · intro b x hx
    have hx : (outOf M sel r).mem[b]? = some x := hx
    by_cases hb : b < M.length
    · by_cases hm : b ∈ sel
      · have hi := inv_mem hm
        have hlb : inv sel b < (r.upd.getD (partM M sel)).length := by rw [hbase]; exact inv_lt hm
        have hy := List.getElem?_eq_getElem hlb
        have h1 := hsel _ b _ hi hy
        rw [hx] at h1
        refine .inl ⟨inv sel b, _, back_inv hm, ?_, Option.some.inj h1, by simp [joinR, hb, hm], fun c _ => henv c⟩
        unfold outM
        rw [List.getElem?_append_left hlb]; exact hy
      · rw [hold b hb hm] at hx
        refine .inr ⟨hx, by simp [joinR, hb, hm], fun l g ho e => ?_⟩
        obtain ⟨c, hc', _⟩ := part_owns hlt ho
        rw [back_lt hc'] at e
        subst e
        exact hm (List.mem_of_getElem? hc')
    · have hbl : b < (outOf M sel r).mem.length := (List.getElem?_eq_some_iff.1 hx).1
      have hk : b - M.length < r.new.length := by omega
      have hy := List.getElem?_eq_getElem hk
      have h1 := hnew _ _ hy
      rw [show M.length + (b - M.length) = b by omega, hx] at h1
      refine .inl ⟨sel.length + (b - M.length), _, by rw [back_ge (by omega)]; omega, ?_, Option.some.inj h1, by simp only [joinR]; rw [if_neg hb], fun c _ => henv c⟩
      unfold outM
      rw [List.getElem?_append_right (by rw [hbase]; omega), hbase, show sel.length + (b - M.length) - sel.length = b - M.length by omega]
      exact hy
  · intro b
    by_cases hb : b < M.length
    · by_cases hm : b ∈ sel
      · have h1 := henv (inv sel b)
        have h2 := hE.keep (inv sel b)
        rw [part_env hm hb] at h2
        simp only [On, back_inv hm] at h1
        rcases h2 with h2 | h2 | h2
        · exact .inl h2
        · rcases h1 with h1 | h1 | h1
          · rw [h2] at h1; cases h1
          · exact .inr (.inl h1)
          · exact .inr (.inl (h1.trans h2))
        · rcases h1 with h1 | h1 | h1
          · rw [h2] at h1; exact .inl h1
          · exact .inr (.inl h1)
          · exact .inr (.inr (h1.trans h2))
      · refine .inr (.inr ?_)
        rw [env_some (show (outOf M sel r).mem[b]? = some (M.at b) by rw [hold b hb hm]; exact at_get hb), env_some (at_get hb)]
        simp [joinR, hb, hm]
    · exact .inl (env_none (List.getElem?_eq_none (by omega)))

theorem acall_sound {P : Program} {W0 : World} {eid : RTy → TypeId} {Γ : Gam} (hΓ : GamOk P eid Γ) {f : FuncId} {xs : List AV} {M : Mem} {t : BT OR} (h : acall Γ M f xs = some t) (hp : preOk t.ev.pre)
    {ρ : Nat → Value} {w : World} {vs : Array Value} (hR : Rep ⟨P, W0, eid⟩ ρ M w) (hF : RelF ⟨P, W0, eid⟩ (envOf ρ M) xs vs.toList) :
    Enters P f ∧ Calls P f vs w fun e w' => ∃ v ρ', e = .returned v ∧ RelA ⟨P, W0, eid⟩ (envOf ρ' t.ev.mem) t.ev.val v ∧ Rep ⟨P, W0, eid⟩ ρ' t.ev.mem w' ∧ Ext w ρ M w' ρ' t.ev.mem := by
  unfold acall at h
  split at h
  · cases h
  · rename_i S hS
    have hH := hΓ f S hS
    simp only at h
    generalize hsel : reach M 300 (avidsL xs) [] = sel at h
    cases hb : (allIn sel (avidsL xs) && (closedIn M sel sel && nodupN sel)) with
    | false => rw [hb] at h; cases h
    | true =>
      rw [hb] at h
      simp only [cond_true] at h
      simp only [Bool.and_eq_true] at hb
      obtain ⟨ha, hcl, hnd⟩ := hb
      have ha := allIn_iff.1 ha
      have hc := closedIn_iff hcl
      have hn := nodupN_iff hnd
      have hlt : ∀ b ∈ sel, b < M.length := fun b hb => (hc b hb).2.1
      split at h
      · cases h
      · rename_i t0 ht0
        cases h
        have ht0 : S (xs.map (AV.map (inv sel))) (partM M sel) = some t0 := ht0
        rw [BT.ev_map] at hp ⊢
        have hpre : preOk t0.ev.pre := by
          unfold outOf at hp
          cases hq : t0.ev.upd <;> rw [hq] at hp <;> exact hp
        refine ⟨hH.enters, (hH.run W0 (partR ρ sel) w _ _ vs t0 ht0 hpre (part_rep hR hn hc) (part_args hF ha hlt)).mono ?_⟩
        rintro e w' ⟨v, ρ', rfl, hv, hR', hE'⟩
        have hul : ∀ l, t0.ev.upd = some l → l.length = sel.length := fun l hl => by
          have := hH.upd _ _ t0 ht0 l hl
          simpa [partM] using this
        obtain ⟨hP, hlen, henv⟩ := join_part hn hc hul hE'
        refine ⟨v, joinR ρ ρ' M sel, rfl, ?_, (hP.rep hR.toE hR' hE').rep, (hP.ext hE').ext hlen hP.old⟩
        have hval : (outOf M sel t0.ev).val = t0.ev.val.map (back sel M.length) := by
          unfold outOf
          cases t0.ev.upd <;> rfl
        rw [hval, RelA_map]
        exact hv.on fun b _ => henv b

theorem callFunc_run {P : Program} {f : FuncId} (h : Enters P f) (args : Array Value) (w : World) : (callFunc f args).run P w = .ok (.enter f args) w := by
  obtain ⟨fn, hf, hn, hb⟩ := h
  have hb' : fn.body ≠ none := by intro e; rw [e] at hb; cases hb
  simp [callFunc, hf, hn, hb']

theorem aopT_sound {P : Program} {W0 : World} {eid : RTy → TypeId} {Γ : Gam} {τ : Tys} (hT : Agree ⟨P, W0, eid⟩ τ) (hΓ : GamOk P eid Γ) {o : Oper} {F : List AV} {M : Mem} {a : Act} {w : World} {ρ : Nat → Value} {t : BT OR}
    (h : aopT Γ τ o F M = some t) (hp : preOk t.ev.pre) (hF : RelF ⟨P, W0, eid⟩ (envOf ρ M) F a.tmps.toList) (hR : Rep ⟨P, W0, eid⟩ ρ M w) : OpOk ⟨P, W0, eid⟩ o a w ρ M t.ev := by
  have leaf : ∀ {t : BT OR}, (aop τ o F M).map BT.leaf = some t → preOk t.ev.pre → OpOk ⟨P, W0, eid⟩ o a w ρ M t.ev := by
    intro t h hp
    cases hx : aop τ o F M with
    | none => rw [hx] at h; cases h
    | some x => rw [hx] at h; cases h; exact aop_sound hT hx hp hF hR
  unfold aopT at h
  split at h
  · rename_i c ho
    split at h
    · rename_i fo hcal
      split at h
      · rename_i f xs hfa
        unfold fullArgs at hfa
        split at hfa
        · rename_i f' first caps hoe
          cases hfa
          have hfv := oe_rel hF fo
          rw [hoe] at hfv
          obtain ⟨a', b', hv, h1, h2⟩ := hfv
          have hargs : RelF ⟨P, W0, eid⟩ (envOf ρ M) (first.map .one ++ (c.args.toList.map (oe F) ++ caps.map .one)) ((a' ++ c.args.map a.eval) ++ b').toList := by
            rw [Array.toList_append, Array.toList_append, List.append_assoc]
            exact (RelF.v1s h1).append ((map_eval hF c.args).append (RelF.v1s h2))
          obtain ⟨hent, hcalls⟩ := acall_sound hΓ h hp hR hargs
          intro next Q hn
          have hrun : (execOp a.eval o).run P w = .ok (.enter f ((a' ++ c.args.map a.eval) ++ b')) w := by
            simp only [execOp, ho, resolve, hcal, Deferred.ofValue, hv, Sem.run_bind, Sem.run_pure, Result.andThen_ok, invoke]
            exact callFunc_run hent _ w
          unfold Oper.wp
          show o.upon P a next Q ((execOp a.eval o).run P w)
          rw [hrun, Oper.upon_enter]
          refine hcalls.mono ?_
          rintro e w' ⟨v, ρ', rfl, hv', hR', hE'⟩
          exact hn v w' ρ' hv' hR' hE'
        · cases hfa
      · cases h
    · exact leaf h hp
  · rename_i c y z ho
    have hc := oe_rel hF c
    split at h
    · rename_i b hb
      rw [hb] at hc
      have hcv := bool_of hc
      cases h
      cases b with
      | true =>
        refine OpOk.pure (v := a.eval y) hR ?_ (oe_rel hF y)
        simp [execOp, ho, hcv, asBool]
      | false =>
        refine OpOk.pure (v := a.eval z) hR ?_ (oe_rel hF z)
        simp [execOp, ho, hcv, asBool]
    · cases h
  · exact leaf h hp
end Lw
/- Regions in their written order, and code: what the abstract machine comes to, the machine comes to. -/
set_option linter.unusedVariables false
set_option linter.unusedSimpArgs false
namespace Lw
open Go

/-! ### 1. States -/
structure Sta (X : Cx) (w0 : World) (ρ0 : Nat → Value) (M0 : Mem) (F : List AV) (M : Mem) (a : Act) (w : World) (ρ : Nat → Value) : Prop where
  rf : RelF X (envOf ρ M) F a.tmps.toList
  rep : Rep X ρ M w
  df : a.defers = []
  ext : Ext w0 ρ0 M0 w ρ M

theorem Sta.step {X : Cx} {w0 w w' : World} {ρ0 ρ ρ' : Nat → Value} {M0 M N : Mem} {F : List AV} {a : Act} {x : AV} {v : Value} (h : Sta X w0 ρ0 M0 F M a w ρ) (hv : RelA X (envOf ρ' N) x v) (hR : Rep X ρ' N w') (hE : Ext w ρ M w' ρ' N) (d : Option Tmp) :
    Sta X w0 ρ0 M0 (putF F d x) N (a.put d v) w' ρ' :=
  ⟨putF_rel (h.rf.to hE.keep) hv d, hR, by rw [put_defers]; exact h.df, h.ext.trans hE⟩

theorem BT.then_ev {α : Type} {k : α → Prop} : ∀ {t : BT α}, t.then k → k t.ev
  | .leaf r, h => h
  | .br c a b, h => by
    cases c
    · exact BT.then_ev (t := b) h
    · exact BT.then_ev (t := a) h

theorem lenW_nil {X : Cx} {ρ : Nat → Value} {M : Mem} {w : World} {x : AV} {n : Nat} {v : Value} (hR : Rep X ρ M w) (h : lenW M x = some n) (hv : RelA X (envOf ρ M) x v) :
    ∃ ad c, v = .slice ad n c ∧ (ad = none → n = 0) := by
  unfold lenW at h
  split at h
  · cases h
    obtain ⟨ad, rfl⟩ := (hv : ∃ a, v = .slice a 0 0)
    exact ⟨ad, 0, rfl, fun _ => rfl⟩
  · rename_i b
    split at h
    · rename_i u xs hb
      cases h
      simp only [RelA, RelV1, RelC, env_at_row hb] at hv
      obtain ⟨rfl, _⟩ := hv
      rcases hR.blk b _ (of_at hb (by simp)) with ⟨rfl, ad, hu⟩ | ⟨g, cap, cur, hu, _, _, hle, _⟩
      · exact ⟨ad, 0, hu, fun _ => rfl⟩
      · exact ⟨_, _, hu, fun e => by cases e⟩
    · cases h
  · rename_i u xs
    cases h
    obtain ⟨ad, c, hyv, hle, hc⟩ := (hv : ∃ a c, v = .slice a xs.length c ∧ _)
    refine ⟨ad, c, hyv, fun e => ?_⟩
    cases xs with
    | nil => rfl
    | cons y r =>
      obtain ⟨g, o, he, _⟩ := hc 0 y rfl
      rw [e] at he; cases he
  · cases h

theorem stepOp_sound {P : Program} {W0 : World} {eid : RTy → TypeId} {Γ : Gam} {τ : Tys} (hT : Agree ⟨P, W0, eid⟩ τ) (hΓ : GamOk P eid Γ) {w0 : World} {ρ0 : Nat → Value} {M0 : Mem} {o : Oper} {F : List AV} {M : Mem} {a : Act} {w : World} {ρ : Nat → Value}
    {k : AV → Mem → Prop} (h : stepOp Γ τ o F M k) (hS : Sta ⟨P, W0, eid⟩ w0 ρ0 M0 F M a w ρ) {next : Act → World → Prop} {Q : Exit → Act → World → Prop}
    (hn : ∀ x N v w' ρ', k x N → Sta ⟨P, W0, eid⟩ w0 ρ0 M0 (putF F o.dst x) N (a.put o.dst v) w' ρ' → next (a.put o.dst v) w') : o.wp P a w next Q := by
  unfold stepOp at h
  split at h
  · rename_i eq n hnc
    unfold nilCmp at hnc
    split at hnc
    · rename_i op t y u ho
      split at hnc
      · rename_i ti m hti hlen
        split at hnc
        · rename_i rt hel
          obtain ⟨ad, c, hv, hnil⟩ := lenW_nil hS.rep hlen (oe_rel hS.rf y)
          obtain ⟨hd, _⟩ := elem_of (hT t ti hti) hel
          have hcn : a.eval (.const (.slice none 0 0)) = .slice none 0 0 := rfl
          have hbool : ∀ b : Bool, RelA ⟨P, W0, eid⟩ (envOf ρ M) (boolAV b) (.bool b) := fun b => rfl
          have hn0 : ad.isNone = true → m = 0 := fun e => hnil (by cases ad <;> simp_all)
          split at hnc
          · cases hnc
            have hk := h ad.isNone hn0
            have hrun : (execOp a.eval o).run P w = .ok (.value (.bool ad.isNone)) w := by
              simp only [execOp, ho, hcn, hv, Sem.run_bind]
              simp only [eqGuard, binOp]
              simp [run_equal_slice_nil w t (eid rt) ad n c hd]
            unfold Oper.wp
            rw [hrun, Oper.upon_value]
            refine hn _ _ _ w ρ hk (hS.step ?_ hS.rep (Ext.refl w ρ M) o.dst)
            have : (ad.isNone == true) = ad.isNone := by cases ad.isNone <;> rfl
            rw [this]; exact hbool _
          · cases hnc
            have hk := h ad.isNone hn0
            have hrun : (execOp a.eval o).run P w = .ok (.value (.bool (!ad.isNone))) w := by
              simp only [execOp, ho, hcn, hv, Sem.run_bind]
              simp only [eqGuard]
              simp [run_neq_slice_nil w t (eid rt) ad n c hd]
            unfold Oper.wp
            rw [hrun, Oper.upon_value]
            refine hn _ _ _ w ρ hk (hS.step ?_ hS.rep (Ext.refl w ρ M) o.dst)
            have : (ad.isNone == false) = !ad.isNone := by cases ad.isNone <;> rfl
            rw [this]; exact hbool _
          · cases hnc
        · cases hnc
      · cases hnc
    · cases hnc
  · split at h
    · rename_i t ht
      have h1 := BT.then_ev h
      rw [andP_iff] at h1
      exact aopT_sound hT hΓ ht h1.1 hS.rf hS.rep next Q fun v w' ρ' hv hR hE => hn _ _ v w' ρ' h1.2 (hS.step hv hR hE o.dst)
    · exact h.elim

/-! ### 2. Guards -/
theorem guardOf_rel {X : Cx} {E : Env} {all : List Oper} {ops : Array Oper} (hall : ops.toList = all) {F : List AV} {a : Act} {j : Nat} {g : Option Bool} (h : guardOf all F j = some g) (hF : RelF X E F a.tmps.toList) : yielded ops a.tmps j = g := by
  unfold guardOf at h
  unfold yielded
  split at h
  · rename_i o ho
    have ho' : ops[j]? = some o := by rw [← Array.getElem?_toList, hall]; exact ho
    rw [ho', Option.bind_some]
    split at h
    · rename_i d hd
      rw [hd, Option.bind_some]
      split at h
      · rename_i b hb
        cases h
        obtain ⟨v, hv, hr⟩ := hF.get d _ hb
        rw [Array.getElem?_toList] at hv
        rw [hv]
        have : v = .bool b := hr
        subst this; rfl
      · rename_i hb
        cases h
        obtain ⟨v, hv, hr⟩ := hF.get d _ hb
        rw [Array.getElem?_toList] at hv
        rw [hv]
        have : v = undef := hr
        subst this; rfl
      · cases h
    · cases h
  · cases h

theorem sel2_iff {b want : Bool} {p q : Prop} (h : sel2 b want p q) : (b = want ∧ p) ∨ (b ≠ want ∧ q) := by
  cases want <;> cases b
  · exact .inl ⟨rfl, h⟩
  · exact .inr ⟨by simp, h⟩
  · exact .inr ⟨by simp, h⟩
  · exact .inl ⟨rfl, h⟩

theorem known_eq {all : List Oper} {F : List AV} {j : Nat} {b : Bool} (h : guardOf all F j = some (some b)) : known all F j b = F := by
  unfold guardOf at h
  unfold known
  cases ho : all[j]? with
  | none => rfl
  | some o =>
    rw [ho] at h
    cases hd : o.dst with
    | none => simp only [hd]
    | some d =>
      simp only [hd] at h ⊢
      split at h
      · rename_i b' hb
        cases h
        apply List.ext_getElem?
        intro k
        by_cases hk : d = k
        · subst hk
          rw [List.getElem?_set_self (List.getElem?_eq_some_iff.1 hb).1, hb]
        · rw [List.getElem?_set_ne hk]
      · cases h
      · cases h

theorem runOps_sound {P : Program} {W0 : World} {eid : RTy → TypeId} {Γ : Gam} {τ : Tys} (hT : Agree ⟨P, W0, eid⟩ τ) (hΓ : GamOk P eid Γ) {w0 : World} {ρ0 : Nat → Value} {M0 : Mem} {ops : Array Oper} {K : List AV → Mem → Prop} {Q : Exit → Act → World → Prop} {m : Nat} {rest : List Oper} :
    ∀ (l : List Oper) (k : Nat) (F : List AV) (M : Mem) (a : Act) (w : World) (ρ : Nat → Value), ops.toList.drop k = l ++ rest → 
      (∀ F M a w ρ, K F M → Sta ⟨P, W0, eid⟩ w0 ρ0 M0 F M a w ρ → wpOps P ops Q (List.range' (k + l.length) m) a w) →
      runOps Γ τ ops.toList l F M K → Sta ⟨P, W0, eid⟩ w0 ρ0 M0 F M a w ρ → wpOps P ops Q (List.range' k (l.length + m)) a w := by
  intro l
  induction l with
  | nil =>
    intro k F M a w ρ hk hK h hS
    have := hK F M a w ρ h hS
    simpa using this
  | cons o l ih =>
    intro k F M a w ρ hk hK h hS
    have hlt : k < ops.toList.length := by
      have := congrArg List.length hk
      simp at this; simp; omega
    have hget : ops[k]? = some o := by
      rw [← Array.getElem?_toList, List.getElem?_eq_getElem hlt]
      rw [List.drop_eq_getElem_cons hlt, List.cons_append] at hk
      injection hk with h1 h2
      rw [h1]
    have hdrop : ops.toList.drop (k + 1) = l ++ rest := by
      rw [List.drop_eq_getElem_cons hlt, List.cons_append] at hk
      injection hk
    rw [show (o :: l).length + m = (l.length + m) + 1 by simp; omega, List.range'_succ, wpOps_cons]
    unfold wpOp
    rw [hget]
    simp only
    unfold runOps at h
    have hK' : ∀ F M a w ρ, K F M → Sta ⟨P, W0, eid⟩ w0 ρ0 M0 F M a w ρ → wpOps P ops Q (List.range' (k + 1 + l.length) m) a w := fun F M a w ρ h hS => by
      have := hK F M a w ρ h hS
      rwa [show k + (o :: l).length = k + 1 + l.length by simp; omega] at this
    have go : ∀ {x N v w' ρ'}, runOps Γ τ ops.toList l (putF F o.dst x) N K → Sta ⟨P, W0, eid⟩ w0 ρ0 M0 (putF F o.dst x) N (a.put o.dst v) w' ρ' → wpOps P ops Q (List.range' (k + 1) (l.length + m)) (a.put o.dst v) w' :=
      fun {x N v w' ρ'} hr hs => ih (k + 1) _ _ _ w' ρ' hdrop hK' hr hs
    have skip : runOps Γ τ ops.toList l (putF F o.dst .undef) M K → wpOps P ops Q (List.range' (k + 1) (l.length + m)) (a.put o.dst undef) w :=
      fun hr => go hr (hS.step (x := .undef) (v := undef) rfl hS.rep (Ext.refl w ρ M) o.dst)
    split at h
    · rename_i hg
      rw [if_pos (by simp [Region.wanted, hg])]
      exact .inl (stepOp_sound hT hΓ h hS fun x N v w' ρ' hr hs => go hr hs)
    · rename_i j want hg
      split at h
      · rename_i b hgo
        have hy := guardOf_rel rfl hgo hS.rf
        rcases sel2_iff h with ⟨hb, h⟩ | ⟨hb, h⟩
        · rw [← hb, known_eq hgo] at h
          rw [if_pos (by simp [Region.wanted, hg, hy, hb])]
          exact .inl (stepOp_sound hT hΓ h hS fun x N v w' ρ' hr hs => go hr hs)
        · rw [show (!want) = b by cases b <;> cases want <;> simp_all, known_eq hgo] at h
          rw [if_neg (by simp [Region.wanted, hg, hy, hb])]
          exact skip h
      · rename_i hgo
        have hy := guardOf_rel rfl hgo hS.rf
        rw [if_neg (by simp [Region.wanted, hg, hy])]
        exact skip h
      · exact h.elim

/-! ### 2b. Tests of several parts -/
theorem bif_some {α : Type} {c : Bool} {x : Option α} {r : α} (h : (bif c then x else none) = some r) : x = some r := by
  cases c
  · cases h
  · exact h
theorem orOf_mem1 {M : Mem} {v : Option AV} {r : OR} (h : orOf M v = some r) : r.mem = M := by
  unfold orOf at h
  split at h
  · cases h; rfl
  · cases h
theorem aop_pure {τ : Tys} {o : Oper} {F : List AV} {M : Mem} {r : OR} (hp : pureOp o.op = true) (h : aop τ o F M = some r) : r.mem = M := by
  unfold aop at h
  cases ho : o.op <;> rw [ho] at hp h <;> (try (exact Bool.noConfusion (show false = true from hp))) <;> simp only at h
  all_goals (repeat' (split at h))
  all_goals first
    | (cases h; rfl)
    | (cases h; done)
    | exact orOf_mem1 h
    | (have h := bif_some h; first | (cases h; rfl) | exact orOf_mem1 h)
theorem aop_len {τ : Tys} {o : Oper} {c : Go.Call} {F : List AV} {M : Mem} {r : OR} (ho : o.op = .call c) (hc : c.callee = .builtin .len) (h : aop τ o F M = some r) : r.mem = M := by
  unfold aop at h
  rw [ho] at h
  simp only [hc] at h
  unfold abuiltin at h
  split at h
  all_goals (repeat' (split at h))
  all_goals first
    | (cases h; rfl)
    | (cases h; done)
    | (have h := bif_some h; cases h; rfl)
    | contradiction
theorem isNilB_eq {M : Mem} (h : isNilB M = true) : M = [] := by
  cases M
  · rfl
  · cases h
theorem pureT_spec {Γ : Gam} {τ : Tys} {o : Oper} {F : List AV} {M : Mem} {p : Option Prop} {v : AV} (h : pureT Γ τ o F M = some (p, v)) : ∃ t, aopT Γ τ o F M = some t ∧ t.ev = ⟨p, v, M⟩ := by
  unfold pureT at h
  split at h
  · rename_i c ho
    split at h
    · rename_i f hf
      split at h
      · rename_i g xs hfa
        split at h
        · rename_i S hS
          have hb : (allIn (reach M 300 (avidsL xs) []) (avidsL xs) && (closedIn M (reach M 300 (avidsL xs) []) (reach M 300 (avidsL xs) []) && nodupN (reach M 300 (avidsL xs) []))) = true := by
            cases hb : (allIn (reach M 300 (avidsL xs) []) (avidsL xs) && (closedIn M (reach M 300 (avidsL xs) []) (reach M 300 (avidsL xs) []) && nodupN (reach M 300 (avidsL xs) []))) with
            | true => rfl
            | false => rw [hb] at h; cases h
          have h := bif_some h
          split at h
          · rename_i r hr
            split at h
            · rename_i hu
              have hn := isNilB_eq (show isNilB r.new = true by
                cases hn : isNilB r.new with
                | true => rfl
                | false => rw [hn] at h; cases h)
              have h := bif_some h
              cases h
              refine ⟨.leaf (outOf M (reach M 300 (avidsL xs) []) r), ?_, ?_⟩
              · unfold aopT
                rw [ho]
                simp only [hf, hfa]
                unfold acall
                rw [hS]
                simp only
                rw [hb]
                simp only [cond_true, hr, BT.map]
              · show outOf M _ r = _
                unfold outOf
                rw [hu]
                simp only [hn, List.map_nil, List.append_nil]
            · cases h
          · cases h
        · cases h
      · cases h
    · rename_i hc
      split at h
      · rename_i r hr
        cases h
        refine ⟨.leaf r, ?_, ?_⟩
        · unfold aopT
          rw [ho]
          simp only [hc, hr, Option.map_some]
        · have := aop_len ho hc hr
          subst this
          cases r; rfl
      · cases h
    · cases h
  · rename_i hnc
    have h1 := bif_some h
    have hp : pureOp o.op = true := by
      cases hb : pureOp o.op with
      | true => rfl
      | false => rw [hb] at h; cases h
    split at h1
    · rename_i r hr
      cases h1
      have hm := aop_pure hp hr
      cases ho : o.op
      case pick c x y =>
        unfold aop at hr
        rw [ho] at hr
        simp only at hr
        split at hr
        · rename_i b hb
          split at hr
          · rename_i x' y' hx hy
            cases hr
            refine ⟨.br b (.leaf ⟨none, oe F x, M⟩) (.leaf ⟨none, oe F y, M⟩), by unfold aopT; rw [ho]; simp only [hb], ?_⟩
            cases b
            · show (⟨none, oe F y, M⟩ : OR) = _
              rw [hy]; rfl
            · show (⟨none, oe F x, M⟩ : OR) = _
              rw [hx]; rfl
          · cases hr
        · cases hr
      all_goals first
        | (exact absurd ho (hnc _))
        | (refine ⟨.leaf r, by unfold aopT; rw [ho]; simp only [hr, Option.map_some], ?_⟩
           subst hm
           cases r; rfl)
    · cases h1
theorem list_set_get {α : Type} {xs : List α} {i : Nat} {x : α} (h : xs[i]? = some x) : xs.set i x = xs := by
  apply List.ext_getElem?
  intro k
  by_cases hk : i = k
  · subst hk
    have hlt := (List.getElem?_eq_some_iff.1 h).1
    rw [List.getElem?_set_self hlt, h]
  · rw [List.getElem?_set_ne hk]

theorem RelF.reset {X : Cx} {E : Env} {F : List AV} {vs : List Value} (h : RelF X E F vs) {s : Nat} {x : AV} (hx : ∀ v, vs[s]? = some v → RelA X E x v) : RelF X E (F.set s x) vs := by
  cases hv : vs[s]? with
  | none =>
    have : F.length ≤ s := by rw [← h.length]; simpa using hv
    rw [List.set_eq_of_length_le this]; exact h
  | some v =>
    have := h.set (hx v hv) s
    rwa [list_set_get hv] at this

theorem sameG_eq {j : Nat} {w : Bool} {o : Oper} (h : sameG j w o = true) : o.guard = some (j, w) := by
  unfold sameG at h
  split at h
  · rename_i j' w' hg
    rw [Bool.and_eq_true] at h
    have := Nat.eq_of_beq_eq_true h.1
    have h2 : w = w' := by simpa using h.2
    subst this; subst h2; exact hg
  · cases h
theorem guardIs_eq {all : List Oper} {F : List AV} {j : Nat} {w : Bool} (h : guardIs all F j w = true) : guardOf all F j = some (some w) := by
  unfold guardIs at h
  split at h
  · rename_i g hg
    have : g = w := by simpa using h
    subst this; exact hg
  · cases h
theorem RelF.junkAll {X : Cx} {E : Env} {vs : List Value} : ∀ (l : List Oper) {F : List AV}, RelF X E F vs → RelF X E (Lw.junkAll l F) vs
  | [], F, h => h
  | o :: r, F, h => by
    unfold Lw.junkAll
    refine RelF.junkAll r ?_
    cases hd : o.dst with
    | none => exact h
    | some d => exact h.reset fun v _ => trivial
theorem junk_len : ∀ (l : List Oper) (F : List AV), (junkAll l F).length = F.length
  | [], F => rfl
  | o :: r, F => by
    unfold junkAll
    rw [junk_len r]
    cases o.dst <;> simp [putF]
theorem junk_comm (d : Tmp) (v : AV) : ∀ (l : List Oper) (F : List AV), (∃ o ∈ l, o.dst = some d) → junkAll l (F.set d v) = junkAll l F
  | [], F, h => by obtain ⟨o, ho, _⟩ := h; cases ho
  | o :: r, F, h => by
    unfold junkAll
    by_cases ho : o.dst = some d
    · rw [ho]
      show junkAll r ((F.set d v).set d .junk) = junkAll r (F.set d .junk)
      rw [List.set_set]
    · have hr : ∃ o ∈ r, o.dst = some d := by
        obtain ⟨x, hx, hd⟩ := h
        rcases List.mem_cons.1 hx with rfl | hx
        · exact absurd hd ho
        · exact ⟨x, hx, hd⟩
      cases hd : o.dst with
      | none => exact junk_comm d v r F hr
      | some e =>
        have hne : d ≠ e := fun h => ho (by rw [hd, h])
        show junkAll r ((F.set d v).set e .junk) = junkAll r (F.set e .junk)
        rw [List.set_comm _ _ hne]
        exact junk_comm d v r _ hr
theorem junk_put (d : Option Tmp) (v : AV) (o : Oper) (ho : o.dst = d) (r : List Oper) (F : List AV) (l : List Oper) (hl : ∀ x ∈ o :: r, x ∈ l) : junkAll l (putF F d v) = junkAll l F := by
  cases d with
  | none => rfl
  | some d => exact junk_comm d v l F ⟨o, hl o (List.mem_cons_self ..), ho⟩
theorem runPure_junk {Γ : Gam} {τ : Tys} {all : List Oper} {j : Nat} {w : Bool} {M : Mem} {L : List Oper} : ∀ {l : List Oper} {F F1 : List AV} {q : Option Prop}, (∀ x ∈ l, x ∈ L) → runPure Γ τ all j w l F M = some (q, F1) → junkAll L F1 = junkAll L F
  | [], F, F1, q, _, h => by cases h; rfl
  | o :: r, F, F1, q, hl, h => by
    unfold runPure at h
    have h := bif_some h
    split at h
    · rename_i p v hp
      split at h
      · rename_i q' F' hr
        cases h
        rw [runPure_junk (fun x hx => hl x (List.mem_cons_of_mem _ hx)) hr]
        exact junk_put o.dst v o rfl r F L hl
      · cases h
    · cases h
theorem runUndef_junk {all : List Oper} {j : Nat} {w : Bool} {L : List Oper} : ∀ {l : List Oper} {F F1 : List AV}, (∀ x ∈ l, x ∈ L) → runUndef all j w l F = some F1 → junkAll L F1 = junkAll L F
  | [], F, F1, _, h => by cases h; rfl
  | o :: r, F, F1, hl, h => by
    unfold runUndef at h
    have h := bif_some h
    rw [runUndef_junk (fun x hx => hl x (List.mem_cons_of_mem _ hx)) h]
    exact junk_put o.dst .undef o rfl r F L hl
theorem andO_ok {p q : Option Prop} (h : preOk (andO p q)) : preOk p ∧ preOk q := by
  cases p <;> cases q <;> simp_all [andO, preOk]
theorem runUndef_sound {P : Program} {W0 : World} {eid : RTy → TypeId} {w0 : World} {ρ0 : Nat → Value} {M0 : Mem} {ops : Array Oper} {Q : Exit → Act → World → Prop} {m : Nat} {rest : List Oper} {j : Nat} {b : Bool} {M : Mem} {F1 : List AV} : ∀ (l : List Oper) (k : Nat) (F : List AV) (a : Act) (w : World) (ρ : Nat → Value), ops.toList.drop k = l ++ rest → runUndef ops.toList j b l F = some F1 →
      (∀ a w ρ, Sta ⟨P, W0, eid⟩ w0 ρ0 M0 F1 M a w ρ → wpOps P ops Q (List.range' (k + l.length) m) a w) →
      Sta ⟨P, W0, eid⟩ w0 ρ0 M0 F M a w ρ → wpOps P ops Q (List.range' k (l.length + m)) a w := by
  intro l
  induction l with
  | nil =>
    intro k F a w ρ hk h hK hS
    cases h
    have := hK a w ρ hS
    simpa using this
  | cons o l ih =>
    intro k F a w ρ hk h hK hS
    have hlt : k < ops.toList.length := by
      have := congrArg List.length hk
      simp at this; simp; omega
    have hget : ops[k]? = some o := by
      rw [← Array.getElem?_toList, List.getElem?_eq_getElem hlt]
      rw [List.drop_eq_getElem_cons hlt, List.cons_append] at hk
      injection hk with h1 h2
      rw [h1]
    have hdrop : ops.toList.drop (k + 1) = l ++ rest := by
      rw [List.drop_eq_getElem_cons hlt, List.cons_append] at hk
      injection hk
    rw [show (o :: l).length + m = (l.length + m) + 1 by simp; omega, List.range'_succ, wpOps_cons]
    unfold wpOp
    rw [hget]
    simp only
    unfold runUndef at h
    have hc : (sameG j b o && guardIs ops.toList F j (!b)) = true := by
      cases hc : (sameG j b o && guardIs ops.toList F j (!b)) with
      | true => rfl
      | false => rw [hc] at h; cases h
    have h := bif_some h
    rw [Bool.and_eq_true] at hc
    have hg := sameG_eq hc.1
    have hy := guardOf_rel rfl (guardIs_eq hc.2) hS.rf
    rw [if_neg (by simp [Region.wanted, hg, hy])]
    refine ih (k + 1) _ _ w ρ hdrop h (fun a w ρ hS => ?_) (hS.step (x := .undef) (v := undef) rfl hS.rep (Ext.refl w ρ M) o.dst)
    have := hK a w ρ hS
    rwa [show k + (o :: l).length = k + 1 + l.length by simp; omega] at this
section grp
variable {P : Program} {W0 : World} {eid : RTy → TypeId} {Γ : Gam} {τ : Tys} (hT : Agree ⟨P, W0, eid⟩ τ) (hΓ : GamOk P eid Γ) {w0 : World} {ρ0 : Nat → Value} {M0 : Mem} {ops : Array Oper} {Q : Exit → Act → World → Prop} {m : Nat} {rest : List Oper}
include hT hΓ
theorem runPure_sound {j : Nat} {b : Bool} {M : Mem} {F1 : List AV} : ∀ (l : List Oper) (k : Nat) (F : List AV) (a : Act) (w : World) (ρ : Nat → Value) (q : Option Prop), ops.toList.drop k = l ++ rest → runPure Γ τ ops.toList j b l F M = some (q, F1) → preOk q →
      (∀ a w ρ, Sta ⟨P, W0, eid⟩ w0 ρ0 M0 F1 M a w ρ → wpOps P ops Q (List.range' (k + l.length) m) a w) →
      Sta ⟨P, W0, eid⟩ w0 ρ0 M0 F M a w ρ → wpOps P ops Q (List.range' k (l.length + m)) a w := by
  intro l
  induction l with
  | nil =>
    intro k F a w ρ q hk h hq hK hS
    cases h
    have := hK a w ρ hS
    simpa using this
  | cons o l ih =>
    intro k F a w ρ q hk h hq hK hS
    have hlt : k < ops.toList.length := by
      have := congrArg List.length hk
      simp at this; simp; omega
    have hget : ops[k]? = some o := by
      rw [← Array.getElem?_toList, List.getElem?_eq_getElem hlt]
      rw [List.drop_eq_getElem_cons hlt, List.cons_append] at hk
      injection hk with h1 h2
      rw [h1]
    have hdrop : ops.toList.drop (k + 1) = l ++ rest := by
      rw [List.drop_eq_getElem_cons hlt, List.cons_append] at hk
      injection hk
    rw [show (o :: l).length + m = (l.length + m) + 1 by simp; omega, List.range'_succ, wpOps_cons]
    unfold wpOp
    rw [hget]
    simp only
    unfold runPure at h
    have hc : (sameG j b o && guardIs ops.toList F j b) = true := by
      cases hc : (sameG j b o && guardIs ops.toList F j b) with
      | true => rfl
      | false => rw [hc] at h; cases h
    have h := bif_some h
    rw [Bool.and_eq_true] at hc
    have hg := sameG_eq hc.1
    have hy := guardOf_rel rfl (guardIs_eq hc.2) hS.rf
    split at h
    · rename_i p v hp
      split at h
      · rename_i q' F' hr
        cases h
        obtain ⟨hq1, hq2⟩ := andO_ok hq
        obtain ⟨t, ht, hev⟩ := pureT_spec hp
        rw [if_pos (by simp [Region.wanted, hg, hy])]
        refine .inl (aopT_sound hT hΓ ht (by rw [hev]; exact hq1) hS.rf hS.rep _ _ fun u w' ρ' hv hR hE => ?_)
        rw [hev] at hv hR hE
        refine ih (k + 1) _ _ w' ρ' q' hdrop hr hq2 (fun a w ρ hS => ?_) (hS.step hv hR hE o.dst)
        have := hK a w ρ hS
        rwa [show k + (o :: l).length = k + 1 + l.length by simp; omega] at this
      · cases h
    · cases h
/-- The test itself. -/
theorem pickItem_sound {k : Nat} {p : Oper} {c x y : Operand} {d : Tmp} {M : Mem} {F G : List AV} {a : Act} {w : World} {ρ : Nat → Value} {g r : Bool} (hk : ops[k]? = some p) (ho : p.op = .pick c x y) (hd : p.dst = some d) (hg : p.guard = none)
    (hc : oe F c = .one (.c (.pl (.bool g)))) (hr : oe F (cond g x y) = .one (.c (.pl (.bool r)))) (hS : Sta ⟨P, W0, eid⟩ w0 ρ0 M0 F M a w ρ) (hG : Sta ⟨P, W0, eid⟩ w0 ρ0 M0 G M a w ρ) {next : List Nat}
    (hK : ∀ a w ρ, Sta ⟨P, W0, eid⟩ w0 ρ0 M0 (putF G (some d) (boolAV r)) M a w ρ → wpOps P ops Q next a w) : wpOps P ops Q (k :: next) a w := by
  rw [wpOps_cons]
  unfold wpOp
  rw [hk]
  simp only
  rw [if_pos (by simp [Region.wanted, hg])]
  have ht : aopT Γ τ p F M = some (.br g (.leaf ⟨none, oe F x, M⟩) (.leaf ⟨none, oe F y, M⟩)) := by
    unfold aopT
    rw [ho]
    simp only [hc]
  refine .inl (aopT_sound hT hΓ ht (by cases g <;> trivial) hS.rf hS.rep _ _ fun u w' ρ' hv hR hE => ?_)
  have hev : (BT.br g (.leaf ⟨none, oe F x, M⟩) (.leaf ⟨none, oe F y, M⟩) : BT OR).ev = ⟨none, boolAV r, M⟩ := by
    cases g
    · show (⟨none, oe F y, M⟩ : OR) = _
      rw [show oe F y = _ from hr]; rfl
    · show (⟨none, oe F x, M⟩ : OR) = _
      rw [show oe F x = _ from hr]; rfl
  rw [hev] at hv hR hE
  rw [hd]
  exact hK _ w' ρ' (hG.step hv hR hE (some d))
theorem runItems_sound {K : List AV → Mem → Prop} (hK : ∀ F M a w ρ, K F M → Sta ⟨P, W0, eid⟩ w0 ρ0 M0 F M a w ρ → Q .normal a w) : ∀ (r : List Item) (k : Nat) (F : List AV) (M : Mem) (a : Act) (w : World) (ρ : Nat → Value),
    ops.toList.drop k = r.flatMap (fun i => match i with | .one o => [o] | .grp _ _ pre p => pre ++ [p]) → runItems Γ τ ops.toList r F M K → Sta ⟨P, W0, eid⟩ w0 ρ0 M0 F M a w ρ → wpOps P ops Q (List.range' k (ops.size - k)) a w := by
  intro r
  induction r with
  | nil =>
    intro k F M a w ρ hk h hS
    have : ops.size - k = 0 := by
      have := congrArg List.length hk
      simpa using this
    rw [this]
    exact hK F M a w ρ h hS
  | cons i r ih =>
    intro k F M a w ρ hk h hS
    cases i with
    | one o =>
      simp only [List.flatMap_cons] at hk
      have hlen := congrArg List.length hk
      simp at hlen
      have hd : ops.toList.drop (k + 1) = r.flatMap (fun i => match i with | .one o => [o] | .grp _ _ pre p => pre ++ [p]) := by
        rw [← List.drop_drop, hk]; rfl
      have := runOps_sound (Q := Q) hT hΓ (m := ops.size - (k + 1)) [o] k F M a w ρ hk (fun F M a w ρ h hS => ih (k + 1) F M a w ρ hd h hS) h hS
      rwa [show [o].length + (ops.size - (k + 1)) = ops.size - k by simp; omega] at this
    | grp j b pre p =>
      simp only [List.flatMap_cons] at hk
      have hlen := congrArg List.length hk
      simp at hlen
      have hd : ops.toList.drop (k + (pre ++ [p]).length) = r.flatMap (fun i => match i with | .one o => [o] | .grp _ _ pre p => pre ++ [p]) := by
        rw [← List.drop_drop, hk, List.drop_left]
      have old (h : runOps Γ τ ops.toList (pre ++ [p]) F M fun F' M' => runItems Γ τ ops.toList r F' M' K) : wpOps P ops Q (List.range' k (ops.size - k)) a w := by
        have := runOps_sound (Q := Q) hT hΓ (m := ops.size - (k + (pre ++ [p]).length)) (pre ++ [p]) k F M a w ρ hk (fun F M a w ρ h hS => ih _ F M a w ρ hd h hS) h hS
        rwa [show (pre ++ [p]).length + (ops.size - (k + (pre ++ [p]).length)) = ops.size - k by simp; omega] at this
      unfold runItems at h
      split at h
      · rename_i g hgo
        split at h
        · rename_i q xx yy d hgr
          rw [andP_iff] at h
          obtain ⟨hpre, h⟩ := h
          unfold grpRes at hgr
          split at hgr
          · rename_i c x y d' ho hpd hpg
            have hct : isTmp (guardTmp ops.toList j) c = true := by
              cases hc : isTmp (guardTmp ops.toList j) c with
              | true => rfl
              | false => rw [hc] at hgr; cases hgr
            have hgr := bif_some hgr
            split at hgr
            · rename_i q1 F1 F0 hF1 hF0
              have hgg : (guardIs ops.toList F1 j b && guardIs ops.toList F0 j (!b)) = true := by
                cases hc : (guardIs ops.toList F1 j b && guardIs ops.toList F0 j (!b)) with
                | true => rfl
                | false => rw [hc] at hgr; cases hgr
              have hgr := bif_some hgr
              rw [Bool.and_eq_true] at hgg
              split at hgr
              · rename_i x1 y1 hx1 hy1
                cases hgr
                have hoe : ∀ {G : List AV} {z : Bool}, guardIs ops.toList G j z = true → oe G c = .one (.c (.pl (.bool z))) := by
                  intro G z hz
                  have hz := guardIs_eq hz
                  unfold isTmp at hct
                  split at hct
                  · rename_i t
                    split at hct
                    · rename_i u hu
                      have := Nat.eq_of_beq_eq_true hct
                      subst this
                      unfold guardTmp at hu
                      unfold guardOf at hz
                      split at hz
                      · rename_i o' ho'
                        rw [ho'] at hu
                        simp only at hu
                        rw [hu] at hz
                        simp only at hz
                        split at hz
                        · rename_i z' hz'
                          cases hz
                          show G.getD t .undef = _
                          rw [List.getD_eq_getElem?_getD, hz']; rfl
                        · cases hz
                        · cases hz
                      · cases hz
                    · cases hct
                  · cases hct
                have hkp : ops[k + pre.length]? = some p := by
                  have hh : (ops.toList.drop k)[pre.length]? = some p := by
                    rw [hk, List.append_assoc, List.getElem?_append_right (Nat.le_refl _)]
                    simp
                  rw [List.getElem?_drop] at hh
                  rw [← Array.getElem?_toList]; exact hh
                have hjunk : ∀ {G : List AV} {a : Act} {w : World} {ρ : Nat → Value}, junkAll pre G = junkAll pre F → Sta ⟨P, W0, eid⟩ w0 ρ0 M0 G M a w ρ → Sta ⟨P, W0, eid⟩ w0 ρ0 M0 (junkAll pre F) M a w ρ := fun he hs => ⟨he ▸ hs.rf.junkAll pre, hs.rep, hs.df, hs.ext⟩
                have hrange : List.range' (k + pre.length) (ops.size - (k + pre.length)) = (k + pre.length) :: List.range' (k + (pre ++ [p]).length) (ops.size - (k + (pre ++ [p]).length)) := by
                  rw [show ops.size - (k + pre.length) = (ops.size - (k + (pre ++ [p]).length)) + 1 by simp; omega, List.range'_succ]
                  simp; omega
                have hsz : pre.length + (ops.size - (k + pre.length)) = ops.size - k := by omega
                have hk2 : ops.toList.drop k = pre ++ ([p] ++ r.flatMap (fun i => match i with | .one o => [o] | .grp _ _ pre p => pre ++ [p])) := by
                  rw [hk, List.append_assoc]
                by_cases hb : g = b
                · subst hb
                  rw [known_eq hgo] at hF1
                  have hq : preOk q := by
                    cases q with
                    | none => trivial
                    | some q => exact hpre rfl
                  have hj := runPure_junk (L := pre) (fun x hx => hx) hF1
                  have := runPure_sound (Q := Q) hT hΓ (m := ops.size - (k + pre.length)) pre k F a w ρ q hk2 hF1 hq (fun a w ρ hs => by
                    rw [hrange]
                    refine pickItem_sound hT hΓ hkp ho hpd hpg (hoe hgg.1) hx1 hs (hjunk hj hs) (fun a w ρ hs' => ih _ _ M a w ρ hd ?_ hs')
                    have e : (cond g (cond g xx yy) (cond g yy xx)) = xx := by cases g <;> rfl
                    rw [e] at h
                    exact h) hS
                  rwa [hsz] at this
                · have hnb : (!b) = g := by cases b <;> cases g <;> simp_all
                  rw [hnb] at hF0 hgg
                  rw [known_eq hgo] at hF0
                  have hj := runUndef_junk (L := pre) (fun x hx => hx) hF0
                  have := runUndef_sound (Q := Q) (M := M) (m := ops.size - (k + pre.length)) pre k F a w ρ hk2 hF0 (fun a w ρ hs => by
                    rw [hrange]
                    refine pickItem_sound hT hΓ (r := yy) hkp ho hpd hpg (hoe hgg.2) ?_ hs (hjunk hj hs) (fun a w ρ hs' => ih _ _ M a w ρ hd ?_ hs')
                    · rw [← hnb]
                      cases b <;> exact hy1
                    · have e : (cond b (cond g xx yy) (cond g yy xx)) = yy := by rw [← hnb]; cases b <;> rfl
                      rw [e] at h
                      exact h) hS
                  rwa [hsz] at this
              · cases hgr
            · cases hgr
          · cases hgr
        · exact old h
      · exact old h
end grp
theorem grpTake_eq (j : Nat) (w : Bool) : ∀ (l : List Oper), (grpTake j w l).1 ++ (grpTake j w l).2 = l
  | [] => rfl
  | o :: r => by
    unfold grpTake
    cases sameG j w o
    · rfl
    · have := grpTake_eq j w r
      simp only [cond_true, List.cons_append, this]
theorem itemsF_eq : ∀ (n : Nat) (l : List Oper), (itemsF n l).flatMap (fun i => match i with | .one o => [o] | .grp _ _ pre p => pre ++ [p]) = l := by
  have hone : ∀ l : List Oper, (l.map Item.one).flatMap (fun i => match i with | .one o => [o] | .grp _ _ pre p => pre ++ [p]) = l := fun l => by
    induction l with
    | nil => rfl
    | cons o r ih => simp only [List.map_cons, List.flatMap_cons, ih]; rfl
  intro n
  induction n with
  | zero => exact hone
  | succ n ih =>
    intro l
    cases l with
    | nil => rfl
    | cons o r =>
      unfold itemsF
      split
      · simp only [List.flatMap_cons, ih]; rfl
      · rename_i j w hg
        have he := grpTake_eq j w (o :: r)
        split
        · rename_i a p b hab
          rw [hab] at he
          simp only [List.flatMap_cons, ih]
          simpa using he
        · rename_i a hab
          rw [hab] at he
          rw [hone]; simpa using he

/-! ### 3. Telling less -/
theorem Le.sta {X : Cx} {w0 w : World} {ρ0 ρ : Nat → Value} {M0 M M' : Mem} {F F' : List AV} {a : Act} {σ : Nat → Nat} (hL : Le M0.length F M F' M' σ) (h : Sta X w0 ρ0 M0 F M a w ρ) : Sta X w0 ρ0 M0 F' M' a w (fun b => ρ (σ b)) := by
  have henv : ∀ b, On (fun b => envOf ρ M (σ b)) (envOf (fun b => ρ (σ b)) M') b := by
    intro b
    cases hl : live M' b with
    | true =>
      obtain ⟨h1, h2⟩ := hL.blk b hl
      have hb : b < M'.length := by
        unfold live at hl
        by_cases hb : b < M'.length
        · exact hb
        · rw [show M'.at b = .dead from by simp [Mem.at, List.getD_eq_getElem?_getD, List.getElem?_eq_none (Nat.le_of_not_lt hb)]] at hl
          cases hl
      refine .inr (.inr ?_)
      rw [env_some (at_get hb)]
      show _ = envOf ρ M (σ b)
      rw [env_some (at_get h1), ← h2, Blk.shape_map]
    | false =>
      by_cases hb : b < M'.length
      · refine .inr (.inl ?_)
        rw [env_some (at_get hb)]
        unfold live at hl
        cases hx : M'.at b <;> rw [hx] at hl <;> simp [Blk.shape] at hl ⊢
      · exact .inl (env_none (List.getElem?_eq_none (hL.out b (Nat.le_of_not_lt hb))))
  have hvis : ∀ b x, M'[b]? = some x → ((∃ vs, x = .cells vs) ∨ (∃ t xs, x = .row t xs)) → live M' b = true := by
    intro b x hx hv
    unfold live
    rw [at_of hx]
    rcases hv with ⟨vs, rfl⟩ | ⟨t, xs, rfl⟩ <;> rfl
  have hown : ∀ b g, Owns (fun b => ρ (σ b)) M' b g → Owns ρ M (σ b) g ∧ live M' b = true := by
    intro b g ho
    obtain ⟨x, hx, hv, hg⟩ := owns_cases ho
    have hl := hvis b x hx hv
    obtain ⟨h1, h2⟩ := hL.blk b hl
    rw [at_of hx] at h2
    refine ⟨owns_of (at_get h1) ?_ hg, hl⟩
    rcases hv with ⟨vs, rfl⟩ | ⟨t, xs, rfl⟩
    · exact .inl ⟨_, h2.symm⟩
    · exact .inr ⟨_, _, h2.symm⟩
  have hrf : ∀ (F F' : List AV) (vs : List Value), F'.length = F.length → (∀ s, F'.getD s .junk = .junk ∨ ((F'.getD s .junk).map σ = F.getD s .junk)) → RelF X (envOf ρ M) F vs → RelF X (envOf (fun b => ρ (σ b)) M') F' vs := by
    intro F
    induction F with
    | nil =>
      intro F' vs hl _ hr
      cases F' with
      | nil => cases vs with
        | nil => trivial
        | cons => exact hr.elim
      | cons => simp at hl
    | cons c r ih =>
      intro F' vs hl hs hr
      cases F' with
      | nil => simp at hl
      | cons c' r' =>
        cases vs with
        | nil => exact hr.elim
        | cons v s =>
          refine ⟨?_, ih r' s (by simpa using hl) (fun k => by simpa using hs (k + 1)) hr.2⟩
          have h0 := hs 0
          simp only [List.getD_cons_zero] at h0
          rcases h0 with h0 | h0
          · rw [h0]; trivial
          · have h1 := hr.1
            rw [← h0, RelA_map] at h1
            exact h1.on fun b _ => henv b
  refine ⟨hrf F F' _ hL.flen hL.slot h.rf, ⟨?_, ?_, ?_, h.rep.ro, h.rep.sz⟩, h.df, ⟨hL.len, h.ext.os, h.ext.tape, h.ext.output, h.ext.size, h.ext.frame, ?_, ?_⟩⟩
  · intro b x hx
    cases hl : live M' b with
    | false =>
      unfold live at hl
      rw [at_of hx] at hl
      cases x <;> simp at hl
      trivial
    | true =>
      obtain ⟨h1, h2⟩ := hL.blk b hl
      rw [at_of hx] at h2
      have h3 := h.rep.blk _ _ (at_get h1)
      rw [← h2, RepB_map] at h3
      exact h3.on (fun c _ => henv c) (fun _ _ _ => rfl)
  · intro b b' g h1 h2
    obtain ⟨o1, l1⟩ := hown b g h1
    obtain ⟨o2, l2⟩ := hown b' g h2
    exact hL.inj b b' l1 l2 (h.rep.sep _ _ g o1 o2)
  · intro b g h1
    exact h.rep.base _ g (hown b g h1).1
  · intro b g h1
    exact h.ext.own _ g (hown b g h1).1
  · intro b
    by_cases hb : b < M0.length
    · cases hl : live M' b with
      | false =>
        refine .inr (.inl ?_)
        have hb' : b < M'.length := Nat.lt_of_lt_of_le hb hL.len
        rw [env_some (at_get hb')]
        unfold live at hl
        cases hx : M'.at b <;> rw [hx] at hl <;> simp [Blk.shape] at hl ⊢
      | true =>
        have h1 := henv b
        have h2 := h.ext.keep b
        have hs := hL.old b hb hl
        simp only [On, hs] at h1
        rcases h2 with h2 | h2 | h2
        · exact .inl h2
        · rcases h1 with h1 | h1 | h1
          · rw [h2] at h1; cases h1
          · exact .inr (.inl h1)
          · exact .inr (.inl (h1.trans h2))
        · rcases h1 with h1 | h1 | h1
          · exact .inl (h2 ▸ h1)
          · exact .inr (.inl h1)
          · exact .inr (.inr (h1.trans h2))
    · exact .inl (env_none (List.getElem?_eq_none (Nat.le_of_not_lt hb)))

/-- An empty slice as an empty row of its own. -/
theorem es_push {X : Cx} {w0 w : World} {ρ0 ρ : Nat → Value} {M0 M : Mem} {F : List AV} {a : Act} (h : Sta X w0 ρ0 M0 F M a w ρ) (t : RTy) (ad : Option Addr) :
    Sta X w0 ρ0 M0 F (M ++ [.row t []]) a w (upd ρ M.length (.slice ad 0 0)) ∧ RelC X (envOf (upd ρ M.length (.slice ad 0 0)) (M ++ [.row t []])) (.row M.length) (.slice ad 0 0) ∧
      (envOf ρ M).to (envOf (upd ρ M.length (.slice ad 0 0)) (M ++ [.row t []])) := by
  have hp := h.rep.push (w' := w) (u := .slice ad 0 0) (x := .row t []) (fun _ _ => rfl) (Nat.le_refl _) rfl rfl rfl (.inl ⟨rfl, ad, rfl⟩) (fun g hg => by cases ad <;> simp [blkOf] at hg)
  refine ⟨⟨h.rf.to hp.2.keep, hp.1, h.df, h.ext.trans hp.2⟩, ?_, hp.2.keep⟩
  simp only [RelC, envOf_push_new ρ M _ (.row t []) rfl]
  exact ⟨trivial, ad, 0, 0, rfl⟩

/-- The first part of a row as a row of its own. -/
theorem cut_push {X : Cx} {w0 w : World} {ρ0 ρ : Nat → Value} {M0 M : Mem} {F : List AV} {a : Act} (h : Sta X w0 ρ0 M0 F M a w ρ) {t : RTy} {xs : List t.T} {b n : Nat} {v : Value} (hb : M[b]? = some (.row t xs)) (hv : RelC X (envOf ρ M) (.sub b 0 n) v) :
    Sta X w0 ρ0 M0 F (M.set b .dead ++ [.row t (xs.take n)]) a w (upd ρ M.length v) ∧ RelC X (envOf (upd ρ M.length v) (M.set b .dead ++ [.row t (xs.take n)])) (.row M.length) v ∧
      (envOf ρ M).to (envOf (upd ρ M.length v) (M.set b .dead ++ [.row t (xs.take n)])) := by
  have hlen : (M.set b .dead).length = M.length := by simp
  simp only [RelC, env_some hb, Blk.shape] at hv
  obtain ⟨a1, cap, a2, hu, rfl, hle, ha, _⟩ := hv
  have ha := ha trivial
  subst ha
  have hle : n ≤ xs.length := by omega
  have hk := h.rep.kill b
  have htl : (xs.take n).length = n := by rw [List.length_take]; omega
  have hrb := h.rep.blk _ _ hb
  have hgb : ∀ g, blkOf (.slice a2 n (cap - 0)) = some g → blkOf (ρ b) = some g := by
    intro g hg
    rw [hu]
    rw [Nat.sub_zero] at hg
    cases a2 <;> cases cap <;> simp [blkOf] at hg ⊢
    exact hg
  have hrow : ∀ E, RepB X E w (.slice a2 n (cap - 0)) (.row t (xs.take n)) := by
    intro E
    rw [hu] at hrb
    rw [Nat.sub_zero]
    rcases hrb with ⟨rfl, a3, he⟩ | ⟨g, cap', cur, he, hc, hg, h1, h2, h3, h4⟩
    · cases he
      have : n = 0 := by simpa using hle
      subst this
      exact .inl ⟨by simp, a2, rfl⟩
    · cases he
      refine .inr ⟨g, cap, cur, by rw [htl], hc, hg, by rw [htl]; omega, h2, h3, ?_⟩
      rw [htl, ← vals_take, ← h4, List.take_take]
      congr 1
      rw [Nat.min_eq_left]
      exact Nat.mul_le_mul_right _ hle
  have hp := hk.1.putNew (w' := w) (u := .slice a2 n (cap - 0)) (x := .row t (xs.take n)) hk.2 (fun _ _ _ => rfl) (fun _ _ => rfl) (Nat.le_refl _) rfl rfl rfl (hrow _) (fun g hg => by
    have ho : Owns ρ M b g := owns_of hb (.inr ⟨_, _, rfl⟩) (hgb g hg)
    exact ⟨fun c hc => (owns_kill hc).1 (h.rep.sep _ _ g (owns_kill hc).2 ho), h.rep.base b g ho, .inl ⟨b, ho⟩⟩)
  rw [hlen] at hp
  refine ⟨⟨h.rf.to hp.2.keep, hp.1, h.df, h.ext.trans hp.2⟩, ?_, hp.2.keep⟩
  have := envOf_push_new ρ (M.set b .dead) (.slice a2 n (cap - 0)) (.row t (xs.take n)) rfl
  rw [hlen] at this
  simp only [RelC, this]
  exact ⟨trivial, _, _, _, rfl⟩

theorem RelV1s.reset {X : Cx} {E : Env} : ∀ {cs : List V1} {vs : List Value} (i : Nat) {x : V1}, RelV1s X E cs vs → (∀ v, vs[i]? = some v → RelV1 X E x v) → RelV1s X E (cs.set i x) vs
  | [], [], _, _, _, _ => trivial
  | _ :: _, v :: _, 0, _, h, hx => ⟨hx v rfl, h.2⟩
  | _ :: _, _ :: _, i + 1, _, h, hx => ⟨h.1, RelV1s.reset i h.2 fun v hv => hx v (by simpa using hv)⟩
  | [], _ :: _, _, _, h, _ => h.elim
  | _ :: _, [], _, _, h, _ => h.elim
theorem RelCs.reset {X : Cx} {E : Env} : ∀ {cs : List Cell} {vs : List Value} (i : Nat) {x : Cell}, RelCs X E cs vs → (∀ v, vs[i]? = some v → RelC X E x v) → RelCs X E (cs.set i x) vs
  | [], [], _, _, _, _ => trivial
  | _ :: _, v :: _, 0, _, h, hx => ⟨hx v rfl, h.2⟩
  | _ :: _, _ :: _, i + 1, _, h, hx => ⟨h.1, RelCs.reset i h.2 fun v hv => hx v (by simpa using hv)⟩
  | [], _ :: _, _, _, h, _ => h.elim
  | _ :: _, [], _, _, h, _ => h.elim

theorem getD_get {α : Type} {xs : List α} {s : Nat} {d x : α} (h : xs.getD s d = x) (hx : x ≠ d) : xs[s]? = some x := by
  rw [List.getD_eq_getElem?_getD] at h
  cases hs : xs[s]? with
  | none => rw [hs] at h; exact absurd h.symm hx
  | some y => rw [hs] at h; simpa using h

/-- Other cells in one block, the world as it is. -/
theorem cells_reset {X : Cx} {w0 w : World} {ρ0 ρ : Nat → Value} {M0 M : Mem} {F : List AV} {a : Act} {b : Nat} {vs vs' : List Cell} (h : Sta X w0 ρ0 M0 F M a w ρ) (hb : M[b]? = some (.cells vs)) (hl : vs'.length = vs.length)
    (hr : ∀ g cs e, ρ b = .pointer (some ⟨g, 0, none⟩) → w.heap[g]? = some (.cells cs e (0, 0)) → RelCs X (envOf ρ M) vs cs.toList → RelCs X (envOf ρ M) vs' cs.toList) : Sta X w0 ρ0 M0 F (M.set b (.cells vs')) a w ρ := by
  have hlt : b < M.length := (List.getElem?_eq_some_iff.1 hb).1
  have henv : envOf ρ (M.set b (.cells vs')) = envOf ρ M := by
    funext c
    by_cases hc : c = b
    · subst hc
      rw [env_some (show (M.set c (.cells vs'))[c]? = some (.cells vs') by simp [hlt]), env_some hb]
      simp [Blk.shape, hl]
    · unfold envOf; rw [get_set_other hc]
  have hown : ∀ c g, Owns ρ (M.set b (.cells vs')) c g → Owns ρ M c g := by
    intro c g ho
    obtain ⟨x, hx, hv, hg⟩ := owns_cases ho
    rcases get_set_cases hx with ⟨rfl, _, rfl⟩ | ⟨_, hx'⟩
    · exact owns_of hb (.inl ⟨_, rfl⟩) hg
    · exact owns_of hx' hv hg
  refine ⟨by rw [henv]; exact h.rf, ⟨?_, fun c c' g h1 h2 => h.rep.sep c c' g (hown c g h1) (hown c' g h2), fun c g h1 => h.rep.base c g (hown c g h1), h.rep.ro, h.rep.sz⟩, h.df,
    ⟨by simpa using h.ext.len, h.ext.os, h.ext.tape, h.ext.output, h.ext.size, h.ext.frame, fun c g h1 => h.ext.own c g (hown c g h1), by rw [henv]; exact h.ext.keep⟩⟩
  intro c x hx
  rw [henv]
  rcases get_set_cases hx with ⟨rfl, _, rfl⟩ | ⟨_, hx'⟩
  · obtain ⟨g, cs, e, hu, hg, hrel⟩ := h.rep.blk _ _ hb
    exact ⟨g, cs, e, hu, hg, hr g cs e hu hg hrel⟩
  · exact h.rep.blk c x hx'

theorem xpand1_sound {X : Cx} {w0 w : World} {ρ0 ρ : Nat → Value} {M0 M : Mem} {F : List AV} {a : Act} {p : XP} {y : List AV × Mem} (hx : xpand1 p (F, M) = some y) (h : Sta X w0 ρ0 M0 F M a w ρ) : ∃ ρ', Sta X w0 ρ0 M0 y.1 y.2 a w ρ' := by
  cases p with
  | slot s t =>
    simp only [xpand1] at hx
    split at hx
    · rename_i hs
      cases hx
      obtain ⟨v, hv, hr⟩ := h.rf.get s _ (getD_get hs (by simp))
      obtain ⟨ad, rfl⟩ := (hr : ∃ a, v = .slice a 0 0)
      obtain ⟨h1, h2, _⟩ := es_push h t ad
      refine ⟨_, ⟨h1.rf.reset fun v' hv' => ?_, h1.rep, h1.df, h1.ext⟩⟩
      rw [hv] at hv'; cases hv'
      exact h2
    · cases hx
  | tup s i t =>
    simp only [xpand1] at hx
    split at hx
    · rename_i xs hs
      split at hx
      · rename_i hi
        cases hx
        obtain ⟨v, hv, hr⟩ := h.rf.get s _ (getD_get hs (by simp))
        obtain ⟨us, rfl, hrs⟩ := hr
        obtain ⟨u, hu, hru⟩ := hrs.get i _ hi
        obtain ⟨ad, rfl⟩ := (hru : ∃ a, u = .slice a 0 0)
        obtain ⟨h1, h2, h3⟩ := es_push h t ad
        refine ⟨_, ⟨h1.rf.reset fun v' hv' => ?_, h1.rep, h1.df, h1.ext⟩⟩
        rw [hv] at hv'; cases hv'
        refine ⟨us, rfl, RelV1s.reset i (hrs.to h3) fun u' hu' => ?_⟩
        rw [hu] at hu'; cases hu'
        exact h2
      · cases hx
    · cases hx
  | blk b j t =>
    simp only [xpand1] at hx
    split at hx
    · rename_i vs hb
      split at hx
      · rename_i hj
        cases hx
        have hb' := of_at hb (by simp)
        have hlt : b < M.length := (List.getElem?_eq_some_iff.1 hb').1
        obtain ⟨g, cs, e, hu, hg, hrel⟩ := h.rep.blk _ _ hb'
        obtain ⟨u, huj, hru⟩ := hrel.get j _ hj
        obtain ⟨ad, rfl⟩ := (hru : ∃ a, u = .slice a 0 0)
        obtain ⟨h1, h2, h3⟩ := es_push h t ad
        have hb1 : (M ++ [Blk.row t []])[b]? = some (.cells vs) := by rw [get_push_old hlt]; exact hb'
        have hset : M.set b (.cells (vs.set j (.row M.length))) ++ [Blk.row t []] = (M ++ [Blk.row t []]).set b (.cells (vs.set j (.row M.length))) := by
          rw [List.set_append_left _ _ hlt]
        rw [hset]
        refine ⟨_, cells_reset h1 hb1 (by simp) fun g' cs' e' hu' hg' hus => RelCs.reset j hus fun u' hu'' => ?_⟩
        rw [upd_other ρ _ (Nat.ne_of_lt hlt), hu] at hu'
        have : g = g' := by simpa using hu'
        subst this
        rw [hg] at hg'
        cases hg'
        rw [huj] at hu''; cases hu''
        exact h2
      · cases hx
    · cases hx
  | cutS s =>
    simp only [xpand1] at hx
    split at hx
    · rename_i b n hs
      split at hx
      · rename_i t xs hb
        cases hx
        obtain ⟨v, hv, hr⟩ := h.rf.get s _ (getD_get hs (by simp))
        obtain ⟨h1, h2, _⟩ := cut_push h (of_at hb (by simp)) hr
        refine ⟨_, ⟨h1.rf.reset fun v' hv' => ?_, h1.rep, h1.df, h1.ext⟩⟩
        rw [hv] at hv'; cases hv'
        exact h2
      · cases hx
    · cases hx
  | cutT s i =>
    simp only [xpand1] at hx
    split at hx
    · rename_i vs hs
      split at hx
      · rename_i b n hi
        split at hx
        · rename_i t xs hb
          cases hx
          obtain ⟨v, hv, hr⟩ := h.rf.get s _ (getD_get hs (by simp))
          obtain ⟨us, rfl, hrs⟩ := hr
          obtain ⟨u, hu, hru⟩ := hrs.get i _ hi
          obtain ⟨h1, h2, h3⟩ := cut_push h (of_at hb (by simp)) hru
          refine ⟨_, ⟨h1.rf.reset fun v' hv' => ?_, h1.rep, h1.df, h1.ext⟩⟩
          rw [hv] at hv'; cases hv'
          refine ⟨us, rfl, RelV1s.reset i (hrs.to h3) fun u' hu' => ?_⟩
          rw [hu] at hu'; cases hu'
          exact h2
        · cases hx
      · cases hx
    · cases hx
  | cutB b j =>
    simp only [xpand1] at hx
    split at hx
    · rename_i vs hb
      split at hx
      · rename_i r n hj
        split at hx
        · rename_i t xs hrow
          cases hx
          have hb' := of_at hb (by simp)
          have hr' := of_at hrow (by simp)
          have hlt : b < M.length := (List.getElem?_eq_some_iff.1 hb').1
          have hne : b ≠ r := fun e => by subst e; rw [hb'] at hr'; cases hr'
          obtain ⟨g, cs, e, hu, hg, hrel⟩ := h.rep.blk _ _ hb'
          obtain ⟨u, huj, hru⟩ := hrel.get j _ hj
          obtain ⟨h1, h2, h3⟩ := cut_push h hr' hru
          have hb1 : (M.set r .dead ++ [Blk.row t (xs.take n)])[b]? = some (.cells vs) := by rw [get_push_old (by simpa using hlt), get_set_other hne]; exact hb'
          refine ⟨_, cells_reset h1 hb1 (by simp) fun g' cs' e' hu' hg' hus => RelCs.reset j hus fun u' hu'' => ?_⟩
          rw [upd_other ρ _ (Nat.ne_of_lt hlt), hu] at hu'
          have : g = g' := by simpa using hu'
          subst this
          rw [hg] at hg'
          cases hg'
          rw [huj] at hu''; cases hu''
          exact h2
        · cases hx
      · cases hx
    · cases hx

theorem xpand_sound {X : Cx} {w0 w : World} {ρ0 : Nat → Value} {M0 : Mem} {a : Act} : ∀ {ps : List XP} {F : List AV} {M : Mem} {ρ : Nat → Value} {y : List AV × Mem}, xpand ps (F, M) = some y → Sta X w0 ρ0 M0 F M a w ρ → ∃ ρ', Sta X w0 ρ0 M0 y.1 y.2 a w ρ'
  | [], F, M, ρ, y, hx, h => by cases hx; exact ⟨ρ, h⟩
  | p :: r, F, M, ρ, y, hx, h => by
    unfold xpand at hx
    split at hx
    · rename_i z hz
      obtain ⟨ρ', h'⟩ := xpand1_sound hz h
      exact xpand_sound (F := z.1) (M := z.2) hx h'
    · cases hx

theorem Wk.sound {X : Cx} {w0 w : World} {ρ0 ρ : Nat → Value} {M0 M : Mem} {F : List AV} {a : Act} {I : List AV → Mem → Prop} (h : Wk M0.length F M I) (hS : Sta X w0 ρ0 M0 F M a w ρ) : ∃ F' M' ρ', I F' M' ∧ Sta X w0 ρ0 M0 F' M' a w ρ' := by
  obtain ⟨ps, y, hy, σ, F', M', hL, hI⟩ := h
  obtain ⟨ρ', h'⟩ := xpand_sound hy hS
  exact ⟨F', M', _, hI, hL.sta h'⟩

/-! ### 4. Code -/
def exOf : Ex → Exit
  | .normal => .normal
  | .exit id => .exit id
  | .ret => .ret

/-- What is asked of regions that draw their order. -/
def DrawOk (P : Program) (eid : RTy → TypeId) (Γ : Gam) (τ : Tys) : Prop :=
  ∀ (W0 w0 : World) (ρ0 : Nat → Value) (M0 : Mem) (id : Nat) (ops : Array Oper) (F : List AV) (M : Mem) (K : List AV → Mem → Prop) (Q : Exit → Act → World → Prop) (a : Act) (w : World) (ρ : Nat → Value),
    ifT (backward 0 ops.toList) (runDraw Γ τ ops.toList (ancs [] ops.toList) ops.toList F M [] K) → Sta ⟨P, W0, eid⟩ w0 ρ0 M0 F M a w ρ →
    (∀ F M a w ρ, K F M → Sta ⟨P, W0, eid⟩ w0 ρ0 M0 F M a w ρ → Q .normal a w) → (Code.region id ops true).wp P Q a w

theorem vc_sound {P : Program} {W0 : World} {eid : RTy → TypeId} {Γ : Gam} {τ : Tys} (hT : Agree ⟨P, W0, eid⟩ τ) (hΓ : GamOk P eid Γ) (hD : DrawOk P eid Γ τ) {w0 : World} {ρ0 : Nat → Value} {M0 : Mem} : ∀ (c : Code) (F : List AV) (M : Mem) (K : Ex → List AV → Mem → Prop) (Q : Exit → Act → World → Prop) (a : Act) (w : World) (ρ : Nat → Value),
    vc Γ τ M0.length c F M K → Sta ⟨P, W0, eid⟩ w0 ρ0 M0 F M a w ρ →
    (∀ e F M a w ρ, K e F M → Sta ⟨P, W0, eid⟩ w0 ρ0 M0 F M a w ρ → Q (exOf e) a w) → (Code.bare c).wp P Q a w := by
  intro c
  induction c with
  | scope x ih =>
    intro F M K Q a w ρ h hS hK
    obtain ⟨I, hb, hr⟩ := (h : CutVC M0.length (vc Γ τ M0.length x F M) K)
    refine ih F M _ Q a w ρ hb hS fun e F' M' a' w' ρ' h' hS' => ?_
    cases e with
    | normal =>
      obtain ⟨F2, M2, ρ2, hI2, hS2⟩ := Wk.sound h' hS'
      exact hK .normal F2 M2 a' w' ρ2 (hr F2 M2 hI2) hS2
    | exit id => exact hK (.exit id) F' M' a' w' ρ' h' hS'
    | ret => exact hK .ret F' M' a' w' ρ' h' hS'
  | skip => intro F M K Q a w ρ h hS hK; exact wp_skip (hK .normal F M a w ρ h hS)
  | region id ops draw =>
    intro F M K Q a w ρ h hS hK
    cases draw with
    | false =>
      refine wp_region ?_
      rw [List.range_eq_range']
      exact runItems_sound hT hΓ (fun F M a w ρ h hS => hK .normal F M a w ρ h hS) _ 0 F M a w ρ (by rw [itemsF_eq]; rfl) h hS
    | true => exact hD W0 w0 ρ0 M0 id ops F M _ Q a w ρ h hS (fun F M a w ρ h hS => hK .normal F M a w ρ h hS)
  | seq x y ihx ihy =>
    intro F M K Q a w ρ h hS hK
    refine wp_seq (ihx F M _ _ a w ρ h hS fun e F' M' a' w' ρ' h' hS' => ?_)
    cases e with
    | normal => exact ihy F' M' K Q a' w' ρ' h' hS' hK
    | exit id => exact hK (.exit id) F' M' a' w' ρ' h' hS'
    | ret => exact hK .ret F' M' a' w' ρ' h' hS'
  | cond c x y ihx ihy =>
    intro F M K Q a w ρ h hS hK
    unfold vc at h
    split at h
    · rename_i b hb
      have hc := oe_rel hS.rf c
      rw [hb] at hc
      have hc : a.eval c = .bool b := hc
      cases b with
      | true => exact wp_cond_true hc (ihx F M K Q a w ρ h hS hK)
      | false => exact wp_cond_false hc (ihy F M K Q a w ρ h hS hK)
    · exact h.elim
  | block id body ih =>
    intro F M K Q a w ρ h hS hK
    refine wp_block (ih F M _ _ a w ρ h hS fun e F' M' a' w' ρ' h' hS' => ?_)
    cases e with
    | normal => exact hK .normal F' M' a' w' ρ' h' hS'
    | ret => exact hK .ret F' M' a' w' ρ' h' hS'
    | exit j =>
      simp only [exOf, Exit.inBlock]
      simp only at h'
      cases hj : Nat.beq j id with
      | true =>
        rw [hj] at h'
        rw [if_pos (Nat.eq_of_beq_eq_true hj)]
        exact hK .normal F' M' a' w' ρ' h' hS'
      | false =>
        rw [hj] at h'
        rw [if_neg (fun e => by subst e; simp at hj)]
        exact hK (.exit j) F' M' a' w' ρ' h' hS'
  | loop body ih =>
    intro F M K Q a w ρ h hS hK
    obtain ⟨I, ⟨n0, h0⟩, hround⟩ := (h : LoopVC M0.length (vc Γ τ M0.length body) F M K)
    obtain ⟨F1, M1, ρ1, hI1, hS1⟩ := h0.sound hS
    refine wp_loop_ghost (fun n a w => ∃ F M ρ, I n F M ∧ Sta ⟨P, W0, eid⟩ w0 ρ0 M0 F M a w ρ) n0 ⟨F1, M1, ρ1, hI1, hS1⟩ ?_
    rintro n a w ⟨F, M, ρ, hI, hS⟩
    refine ih F M _ _ a w ρ (hround n F M hI) hS fun e F' M' a' w' ρ' h' hS' => ?_
    cases e with
    | normal =>
      obtain ⟨n', hlt, hW⟩ := h'
      obtain ⟨F2, M2, ρ2, hI2, hS2⟩ := hW.sound hS'
      exact ⟨n', hlt, F2, M2, ρ2, hI2, hS2⟩
    | exit id => exact hK (.exit id) F' M' a' w' ρ' h' hS'
    | ret => exact hK .ret F' M' a' w' ρ' h' hS'
  | exit id => intro F M K Q a w ρ h hS hK; exact wp_exit (hK (.exit id) F M a w ρ h hS)
  | ret => intro F M K Q a w ρ h hS hK; exact wp_ret (hK .ret F M a w ρ h hS)
  | _ => intro F M K Q a w ρ h hS hK; exact h.elim

/-! ### 5. Functions -/
def resG (a : Act) : ResultVar → Sem Value
  | .tmp t => pure (a.tmps.getD t undef)
  | .cell a' t => do loadVar t (← asAddr (a.tmps.getD a' undef))
theorem resOf_run {X : Cx} {τ : Tys} (hT : Agree X τ) {F : List AV} {M : Mem} {a : Act} {w : World} {ρ : Nat → Value} (hF : RelF X (envOf ρ M) F a.tmps.toList) (hR : Rep X ρ M w) {r : ResultVar} {x : V1} (h : resOf τ F M r = some x) :
    ∃ v, (resG a r).run X.P w = .ok v w ∧ RelV1 X (envOf ρ M) x v := by
  have hget : ∀ t, F.getD t .junk ≠ .junk → RelA X (envOf ρ M) (F.getD t .junk) (a.tmps.getD t undef) := by
    intro t hne
    obtain ⟨v, hv, hr⟩ := hF.get t _ (getD_get rfl hne)
    have : a.tmps.getD t undef = v := by rw [Array.getD_eq_getD_getElem?, ← Array.getElem?_toList, hv]; rfl
    rw [this]; exact hr
  cases r with
  | tmp t =>
    simp only [resOf] at h
    unfold v1Of at h
    split at h
    · rename_i y hy
      cases h
      have := hget t (by rw [hy]; simp)
      rw [hy] at this
      exact ⟨_, rfl, this⟩
    · cases h
  | cell t ty =>
    simp only [resOf] at h
    split at h
    · rename_i ti b i off hti hf
      split at h
      · rename_i vs hb
        cases hle : Nat.ble (off + ti.size) vs.length with
        | false => rw [hle] at h; cases h
        | true =>
          rw [hle] at h
          simp only [cond_true] at h
          have h1 := hget t (by rw [hf]; simp)
          rw [hf] at h1
          have h1 : RelC X (envOf ρ M) (.ptr b i off) (a.tmps.getD t undef) := h1
          obtain ⟨g, cs, e, hu, hv, hg, hr, hi⟩ := ptr_cells hR hb h1
          have hle' := Nat.le_of_ble_eq_true hle
          split at h
          · rename_i av hav
            obtain ⟨v, hv1, hv2⟩ := loadVar_run (hT ty ti hti) (w := w) (g := g) (off := off) (by simp; omega) ((hr.drop off).take ti.size) (cells_part hg) hav
            unfold v1Of at h
            split at h
            · rename_i y hy
              cases h
              refine ⟨v, ?_, hv2⟩
              simp only [resG, Sem.run_bind, hv, asAddr, Sem.run_pure, Result.andThen_ok]
              exact hv1
            · cases h
          · cases h
      · cases h
    · cases h

theorem ressOf_run {X : Cx} {τ : Tys} (hT : Agree X τ) {F : List AV} {M : Mem} {a : Act} {w : World} {ρ : Nat → Value} (hF : RelF X (envOf ρ M) F a.tmps.toList) (hR : Rep X ρ M w) : ∀ {rs : List ResultVar} {xs : List V1}, ressOf τ F M rs = some xs →
    ∃ vs, (rs.mapM (resG a)).run X.P w = .ok vs w ∧ RelV1s X (envOf ρ M) xs vs
  | [], xs, h => by
    cases h
    exact ⟨[], rfl, trivial⟩
  | r :: rs, xs, h => by
    unfold ressOf at h
    split at h
    · rename_i x ys hx hys
      cases h
      obtain ⟨v, hv, hr⟩ := resOf_run hT hF hR hx
      obtain ⟨vs, hvs, hrs⟩ := ressOf_run hT hF hR hys
      refine ⟨v :: vs, ?_, hr, hrs⟩
      rw [List.mapM_cons]
      simp only [Sem.run_bind, hv, hvs, Result.andThen_ok, Sem.run_pure]
    · cases h

theorem RelV1s.length {X : Cx} {E : Env} : ∀ {cs : List V1} {vs : List Value}, RelV1s X E cs vs → vs.length = cs.length
  | [], [], _ => rfl
  | _ :: _, _ :: _, h => congrArg (· + 1) (RelV1s.length h.2)
  | [], _ :: _, h => h.elim
  | _ :: _, [], h => h.elim

theorem results_run {X : Cx} {τ : Tys} (hT : Agree X τ) {fn : Func} {F : List AV} {M : Mem} {a : Act} {w : World} {ρ : Nat → Value} (hF : RelF X (envOf ρ M) F a.tmps.toList) (hR : Rep X ρ M w) {xs : List V1} (h : ressOf τ F M fn.results.toList = some xs) :
    ∃ v, (results fn a.tmps).run X.P w = .ok v w ∧ RelA X (envOf ρ M) (tupOf xs) v := by
  obtain ⟨vs, hvs, hr⟩ := ressOf_run hT hF hR h
  have hlen := hr.length
  have harr : (fn.results.mapM (resG a)).run X.P w = .ok vs.toArray w := by
    rw [Array.mapM_eq_mapM_toList, ← bind_pure_comp, Sem.run_bind, hvs]
    rfl
  have e : (results fn a.tmps).run X.P w = ((fn.results.mapM (resG a)).run X.P w).andThen (fun vs w => .ok (if h : vs.size = 1 then vs[0] else .tuple vs) w) := by
    have : results fn a.tmps = (fn.results.mapM (resG a) >>= fun vs => pure (if h : vs.size = 1 then vs[0] else .tuple vs)) := by
      unfold results
      congr 2
    rw [this, Sem.run_bind]
    rfl
  refine ⟨if h : vs.toArray.size = 1 then vs.toArray[0] else .tuple vs.toArray, ?_, ?_⟩
  · rw [e, harr]; rfl
  · cases xs with
    | nil =>
      cases vs with
      | nil => exact ⟨#[], rfl, trivial⟩
      | cons => exact hr.elim
    | cons x r =>
      cases vs with
      | nil => exact hr.elim
      | cons v s =>
        cases r with
        | nil =>
          cases s with
          | nil => exact hr.1
          | cons => exact hr.2.elim
        | cons y r' =>
          cases s with
          | nil => exact hr.2.elim
          | cons v' s' => exact ⟨(v :: v' :: s').toArray, rfl, hr⟩

/-- A function that comes to what its summary says. -/
theorem holds_of {P : Program} {eid : RTy → TypeId} {Γ : Gam} {τ : Tys} (hT : ∀ W0, Agree ⟨P, W0, eid⟩ τ) (hΓ : GamOk P eid Γ) (hD : DrawOk P eid Γ τ) {f : FuncId} {fn : Func} {S : Summ} (hf : P.funcs[f]? = some fn) (hname : (fn.name != "runtime.NumGoroutine") = true)
    {ps : List (List Nat)} (h : MeetsAt Γ τ (markF ps fn) S) (hb : noScopeB fn = true) : Holds P eid f S := by
  obtain ⟨c, hc, hns⟩ : ∃ c, fn.body = some c ∧ Code.noScope c = true := by
    unfold noScopeB at hb
    split at hb
    · rename_i c hc; exact ⟨c, hc, hb⟩
    · cases hb
  refine ⟨⟨fn, hf, by simpa using hname, by rw [hc]; rfl⟩, fun xs M t ht => (h xs M t ht).1, ?_⟩
  intro W0 ρ w xs M vs t ht hp hR hF
  have hv := (h xs M t ht).2 hp
  unfold vcFunc at hv
  have hbody : (markF ps fn).body = some (Code.marks ps c) := by unfold markF; simp only [hc, Option.map_some]
  rw [hbody] at hv
  simp only at hv
  have hbare : Code.bare (Code.marks ps c) = c := Code.bare_marks.trans (Code.bare_of hns)
  · refine calls_of_wp hf hc (hbare ▸ vc_sound (hT W0) hΓ hD (w0 := w) (ρ0 := ρ) (M0 := M) (Code.marks ps c) _ M _ _ _ w ρ hv ⟨?_, hR, rfl, Ext.refl w ρ M⟩ ?_)
    · rw [Array.toList_append]
      refine hF.append ?_
      rw [Array.toList_replicate]
      have := hF.length
      rw [show fn.ntmps - vs.size = fn.ntmps - xs.length by rw [← this]; simp]
      exact RelF.undefs _
    · intro e F' M' a' w' ρ' hq hS
      have fin : ∀ {vs' : List V1}, ressOf τ F' M' fn.results.toList = some vs' → Ends M.length t.ev M (tupOf vs') M' → a'.defers = [] ∧ ∃ v, (results fn a'.tmps).run P w' = .ok v w' ∧
          ∃ v' ρ'', Ending.returned v = .returned v' ∧ RelA ⟨P, W0, eid⟩ (envOf ρ'' (outM M t.ev)) t.ev.val v' ∧ Rep ⟨P, W0, eid⟩ ρ'' (outM M t.ev) w' ∧ Ext w ρ M w' ρ'' (outM M t.ev) := by
        intro vs' hvs he
        obtain ⟨v, hrun, hrel⟩ := results_run (hT W0) hS.rf hS.rep hvs
        refine ⟨hS.df, v, hrun, v, ?_⟩
        have hS' : Sta ⟨P, W0, eid⟩ w ρ M [tupOf vs'] M' { tmps := #[v], defers := [] } w' ρ' := ⟨⟨hrel, trivial⟩, hS.rep, rfl, hS.ext⟩
        obtain ⟨F2, M2, ρ2, ⟨hF2, hM2⟩, hS2⟩ := he.sound hS'
        subst hF2
        have hM2 : M2 = outM M t.ev := hM2
        subst hM2
        exact ⟨ρ2, rfl, hS2.rf.1, hS2.rep, hS2.ext⟩
      cases e with
      | exit id => exact hq.elim
      | normal =>
        simp only at hq
        split at hq
        · rename_i vs' hvs; exact fin hvs hq
        · exact hq.elim
      | ret =>
        simp only at hq
        split at hq
        · rename_i vs' hvs; exact fin hvs hq
        · exact hq.elim
end Lw
