/- The abstract operations on memory are what the machine's operations do. -/
import Derived.Test.YtijcloeapcapiaaFw5
set_option linter.unusedVariables false
set_option linter.unusedSimpArgs false
namespace Lw
open Go

/-! ### 1. Reading -/
theorem add_none (g o n : Nat) : (⟨g, o, none⟩ : Addr).add n = ⟨g, o + n, none⟩ := by
  unfold Addr.add; split
  · rename_i h; subst h; rfl
  · rfl
theorem info_of {P : Program} {t : TypeId} {n : Nat} (h : (P.info? t).map (·.size) = some n) : ∃ i, P.info? t = some i ∧ i.size = n := by
  cases hi : P.info? t with
  | none => rw [hi] at h; cases h
  | some i => rw [hi] at h; exact ⟨i, rfl, by simpa using h⟩
theorem run_sizeOf {P : Program} {t : TypeId} {n : Nat} (h : (P.info? t).map (·.size) = some n) (w : World) : (Go.sizeOf t).run P w = .ok n w := by
  obtain ⟨i, hi, rfl⟩ := info_of h
  simp [Go.sizeOf, typeInfo, hi]
theorem run_isAgg {P : Program} {t : TypeId} {d : TypeDesc} (h : P.underlying t = some d) (w : World) : (isAgg t).run P w = .ok (aggD d) w := by
  cases d <;> simp [isAgg, run_underlying h, aggD]

theorem loadVar_run {X : Cx} {t : TypeId} {ti : TI} (hA : AgreeT X t ti) {E : Env} {w : World} {g off : Nat} {cs : List Cell} {vs : List Value} {av : AV}
    (hcs : cs.length = ti.size) (hr : RelCs X E cs vs) (hc : ∀ j v, vs[j]? = some v → w.cell? ⟨g, off + j, none⟩ = some v) (hav : ofCells ti cs = some av) :
    ∃ v, (loadVar t ⟨g, off, none⟩).run X.P w = .ok v w ∧ RelA X E av v := by
  obtain ⟨d, hd, hag⟩ := hA.agg
  unfold ofCells at hav
  split at hav
  · rename_i hti
    cases hav
    have hl : (loadCells ⟨g, off, none⟩ vs.length).run X.P w = .ok vs.toArray w := by
      refine run_loadCells_list w ⟨g, off, none⟩ vs fun j v hv => ?_
      rw [add_none]; exact hc j v hv
    refine ⟨.agg vs.toArray, ?_, ⟨vs.toArray, rfl, by simpa using hr⟩⟩
    rw [hr.length, hcs] at hl
    simp only [loadVar, Sem.run_bind, run_isAgg hd, hag, hti, Result.andThen_ok, if_true, run_sizeOf hA.size, hl, Sem.run_pure]
  · rename_i hti
    split at hav
    · rename_i c
      cases hav
      cases vs with
      | nil => exact hr.elim
      | cons v r =>
        have h0 := hc 0 v rfl
        refine ⟨v, ?_, hr.1⟩
        simp only [loadVar, Sem.run_bind, run_isAgg hd, hag, hti, Result.andThen_ok, Bool.false_eq_true, if_false, run_load]
        rw [show (⟨g, off, none⟩ : Addr) = ⟨g, off + 0, none⟩ from rfl, h0]
    · cases hav

theorem cell_at {w : World} {g k : Nat} {cs : Array Value} {e : TypeId} {fr : Nat × Nat} (hg : w.heap[g]? = some (.cells cs e fr)) {v : Value} (h : cs.toList[k]? = some v) : w.cell? ⟨g, k, none⟩ = some v := by
  rw [cell_of_row w g k cs e fr hg, ← Array.getElem?_toList]; exact h
theorem cells_part {w : World} {g off n : Nat} {cs : Array Value} {e : TypeId} {fr : Nat × Nat} (hg : w.heap[g]? = some (.cells cs e fr)) :
    ∀ j v, ((cs.toList.drop off).take n)[j]? = some v → w.cell? ⟨g, off + j, none⟩ = some v := by
  intro j v hv
  rw [List.getElem?_take] at hv
  split at hv
  · rw [List.getElem?_drop] at hv; exact cell_at hg hv
  · cases hv
/-- The cells of element i of a row. -/
theorem row_part {w : World} {g n i off m : Nat} {cur : Array Value} {e : TypeId} {fr : Nat × Nat} {t : RTy} {xs : List t.T} (hg : w.heap[g]? = some (.cells cur e fr))
    (ht : cur.toList.take (xs.length * t.sz) = vals t xs) {x : t.T} (hx : xs[i]? = some x) (hm : off + m ≤ t.sz) :
    ∀ j v, ((((t.enc x).map PC.val).drop off).take m)[j]? = some v → w.cell? ⟨g, i * t.sz + off + j, none⟩ = some v := by
  intro j v hv
  rw [List.getElem?_take] at hv
  split at hv
  · rename_i hj
    rw [List.getElem?_drop, ← vals_elem t xs i x hx, List.getElem?_take] at hv
    split at hv
    · rw [List.getElem?_drop, ← ht, List.getElem?_take] at hv
      split at hv
      · rw [Nat.add_assoc]; exact cell_at hg hv
      · cases hv
    · cases hv
  · cases hv

theorem getD_of {α : Type} {xs : List α} {i : Nat} (h : i < xs.length) (d : α) : xs[i]? = some (xs.getD i d) := by
  rw [List.getD_eq_getElem?_getD, List.getElem?_eq_getElem h]; rfl

theorem ptr_cells {X : Cx} {ρ : Nat → Value} {M : Mem} {w : World} {b i off : Nat} {vs : List Cell} {v : Value} (hR : Rep X ρ M w) (hb : M.at b = .cells vs) (hv : RelC X (envOf ρ M) (.ptr b i off) v) :
    ∃ g cs e, ρ b = .pointer (some ⟨g, 0, none⟩) ∧ v = .pointer (some ⟨g, off, none⟩) ∧ w.heap[g]? = some (.cells cs e (0, 0)) ∧ RelCs X (envOf ρ M) vs cs.toList ∧ i = 0 := by
  have hb' := of_at hb (by simp)
  obtain ⟨g, cs, e, hu, hg, hr⟩ := hR.blk b _ hb'
  have he : envOf ρ M b = .ent (ρ b) (.cells vs.length) := by unfold envOf; rw [hb']; rfl
  simp only [RelC, he] at hv
  obtain ⟨g', hu', hv', hi⟩ := hv
  rw [hu] at hu'
  have : g = g' := by simpa using hu'
  subst this
  exact ⟨g, cs, e, hu, hv', hg, hr, hi⟩
theorem ptr_row {X : Cx} {ρ : Nat → Value} {M : Mem} {w : World} {b i off : Nat} {t : RTy} {xs : List t.T} {v : Value} (hR : Rep X ρ M w) (hb : M.at b = .row t xs) (hv : RelC X (envOf ρ M) (.ptr b i off) v) :
    ∃ g cap cur, ρ b = .slice (some ⟨g, 0, none⟩) xs.length cap ∧ v = .pointer (some ⟨g, i * t.sz + off, none⟩) ∧ 0 < cap ∧ w.heap[g]? = some (.cells cur (X.eid t) (0, 0)) ∧ xs.length ≤ cap ∧ cap ≤ maxLen ∧ cur.size = cap * t.sz ∧
      cur.toList.take (xs.length * t.sz) = vals t xs ∧ i < xs.length := by
  have hb' := of_at hb (by simp)
  have he : envOf ρ M b = .ent (ρ b) (.row t xs.length) := by unfold envOf; rw [hb']; rfl
  simp only [RelC, he] at hv
  obtain ⟨g, m, c, hu, hv', hi⟩ := hv
  rcases hR.blk b _ hb' with ⟨rfl, _⟩ | ⟨g', cap, cur, hu', hc, hg, h1, h2, h3, h4⟩
  · simp at hi
  · rw [hu'] at hu
    have : g' = g := by injection hu with h; injection h with h; injection h
    subst this
    exact ⟨g', cap, cur, hu', hv', hc, hg, h1, h2, h3, h4, hi⟩

theorem run_loadAt {P : Program} {t : TypeId} {a : Addr} {w : World} {v : Value} (h : (loadVar t a).run P w = .ok v w) : (Instr.loadAt t (.pointer (some a))).run P w = .ok v w := by
  simp [Instr.loadAt, Instr.sureAddr, h]
theorem execOp_load {P : Program} {o : Oper} {t : TypeId} {x : Operand} (ho : o.op = .load t x) {ρ : Operand → Value} {w : World} {v : Value} (h : (Instr.loadAt t (ρ x)).run P w = .ok v w) : (execOp ρ o).run P w = .ok (.value v) w := by
  simp [execOp, ho, h]

theorem load_sound {X : Cx} {τ : Tys} (hT : Agree X τ) {o : Oper} {F : List AV} {M : Mem} {a : Act} {w : World} {ρ : Nat → Value} {x : OR} {t : TypeId} {y : Operand} (ho : o.op = .load t y)
    (h : aop τ o F M = some x) (hF : RelF X (envOf ρ M) F a.tmps.toList) (hR : Rep X ρ M w) : OpOk X o a w ρ M x := by
  unfold aop at h
  rw [ho] at h
  simp only at h
  have hy := oe_rel hF y
  split at h
  · rename_i ti b i off hti hoe
    rw [hoe] at hy
    split at h
    · rename_i vs hb
      cases hle : Nat.ble (off + ti.size) vs.length with
      | false => rw [hle] at h; cases h
      | true =>
        rw [hle] at h
        simp only [cond_true] at h
        have hle' := Nat.le_of_ble_eq_true hle
        obtain ⟨g, cs, e, hu, hv, hg, hr, hi⟩ := ptr_cells hR hb hy
        cases hc : ofCells ti ((vs.drop off).take ti.size) with
        | none => rw [hc] at h; cases h
        | some av =>
          rw [hc] at h
          cases h
          obtain ⟨v, hv1, hv2⟩ := loadVar_run (hT t ti hti) (w := w) (g := g) (off := off) (by simp; omega) ((hr.drop off).take ti.size) (cells_part hg) hc
          exact OpOk.pure hR (execOp_load ho (by rw [hv]; exact run_loadAt hv1)) hv2
    · rename_i rt xs hb
      cases hle : Nat.ble (off + ti.size) rt.sz with
      | false => rw [hle] at h; cases h
      | true =>
        rw [hle] at h
        simp only [cond_true] at h
        have hle' := Nat.le_of_ble_eq_true hle
        obtain ⟨g, cap, cur, hu, hv, hcap, hg, h1, h2, h3, h4, hi⟩ := ptr_row hR hb hy
        cases hc : ofCells ti ((((rt.enc (xs.getD i rt.zero)).map Cell.pl).drop off).take ti.size) with
        | none => rw [hc] at h; cases h
        | some av =>
          rw [hc] at h
          cases h
          obtain ⟨v, hv1, hv2⟩ := loadVar_run (hT t ti hti) (E := envOf ρ M) (w := w) (g := g) (off := i * rt.sz + off) (by simp [RTy.enc_length]; omega) (((RelCs.pl _).drop off).take ti.size) (row_part (n := 0) hg h4 (getD_of hi rt.zero) hle') hc
          exact OpOk.pure hR (execOp_load ho (by rw [hv]; exact run_loadAt hv1)) hv2
    · cases h
  · rename_i ti cs hti hoe
    rw [hoe] at hy
    obtain ⟨g, off, hv, hcells⟩ := hy
    cases hle : Nat.ble ti.size cs.length with
    | false => rw [hle] at h; cases h
    | true =>
      rw [hle] at h
      simp only [cond_true] at h
      have hle' := Nat.le_of_ble_eq_true hle
      cases hc : ofCells ti (cs.take ti.size) with
      | none => rw [hc] at h; cases h
      | some av =>
        rw [hc] at h
        cases h
        have hw0 : ∀ (ad : Addr) (v : Value), X.W0.cell? ad = some v → w.cell? ad = some v := by
          intro ad v hv
          have hlt := World.block_lt_of_cell? _ _ hv
          rw [World.cell?_of_block (w := X.W0) (hR.ro ad.block hlt)]; exact hv
        have hall : ∀ (l : List Cell) (o' : Nat), (∀ j c, l[j]? = some c → ∃ p, c = .pl p ∧ X.W0.cell? ⟨g, o' + j, none⟩ = some p.val) → ∃ vs, RelCs X (envOf ρ M) l vs ∧ ∀ j v, vs[j]? = some v → w.cell? ⟨g, o' + j, none⟩ = some v := by
          intro l
          induction l with
          | nil => intro o' _; exact ⟨[], trivial, fun j v hv => by simp at hv⟩
          | cons c r ih =>
            intro o' hl
            obtain ⟨p, rfl, hp⟩ := hl 0 c rfl
            obtain ⟨vs, h1, h2⟩ := ih (o' + 1) (fun j d hd => by
              obtain ⟨q, hq, hq'⟩ := hl (j + 1) d (by simpa using hd)
              exact ⟨q, hq, by rw [show o' + 1 + j = o' + (j + 1) from by omega]; exact hq'⟩)
            refine ⟨p.val :: vs, ⟨rfl, h1⟩, fun j v hv => ?_⟩
            cases j with
            | zero => simp at hv; subst hv; exact hw0 _ _ hp
            | succ j => rw [show o' + (j + 1) = o' + 1 + j from by omega]; exact h2 j v (by simpa using hv)
        obtain ⟨vs, hr, hcs⟩ := hall (cs.take ti.size) off (fun j c hj => by
          rw [List.getElem?_take] at hj
          split at hj
          · exact hcells j c hj
          · cases hj)
        obtain ⟨v, hv1, hv2⟩ := loadVar_run (hT t ti hti) (w := w) (g := g) (off := off) (by simp; omega) hr hcs hc
        exact OpOk.pure hR (execOp_load ho (by rw [hv]; exact run_loadAt hv1)) hv2
  · cases h

/-! ### 2. Writing -/
theorem cellsOf_rel {X : Cx} {E : Env} {x : AV} {cs : List Cell} {v : Value} (h : cellsOf x = some cs) (hv : RelA X E x v) : RelCs X E cs v.cells.toList := by
  cases x <;> simp only [cellsOf] at h <;> try cases h
  case one y =>
    cases y with
    | c c =>
      simp only [cellsOf] at h; cases h
      have h1 := RelC.one (show RelC X E c v from hv)
      have : v.cells = #[v] := by cases v <;> first | rfl | cases h1
      rw [this]
      exact ⟨hv, trivial⟩
    | agg xs =>
      simp only [cellsOf] at h; cases h
      obtain ⟨us, rfl, hr⟩ := hv
      exact hr

theorem storeVar_run {X : Cx} {t : TypeId} {ti : TI} (hA : AgreeT X t ti) {E : Env} {w : World} {g off : Nat} {cur : Array Value} {e : TypeId} {cs : List Cell} {v : Value}
    (hg : w.heap[g]? = some (.cells cur e (0, 0))) (hr : RelCs X E cs v.cells.toList) (hcs : cs.length = ti.size) (hle : off + ti.size ≤ cur.size) :
    (Instr.storeAt t (.pointer (some ⟨g, off, none⟩)) v).run X.P w = .ok () (w.setRow g (setMany cur.toList off v.cells.toList).toArray) := by
  have hl : v.cells.size = ti.size := by have := hr.length; simp at this; omega
  have hs := run_storeCells_at (P := X.P) g off e v.cells.toList 0 cur w hg (by simp; omega) hr.one
  rw [setMany_eq v.cells.toList cur.toList off (by simp; omega)]
  simp only [Nat.add_zero] at hs
  simp only [Instr.storeAt, Instr.sureAddr, storeVar, Sem.run_bind, Sem.run_pure, Result.andThen_ok, run_sizeOf hA.size]
  simp only [hl, ne_eq, not_true_eq_false, if_false, hs]
theorem execOp_store {P : Program} {o : Oper} {t : TypeId} {x y : Operand} (ho : o.op = .store t x y) {ρ : Operand → Value} {w w' : World} (h : (Instr.storeAt t (ρ x) (ρ y)).run P w = .ok () w') : (execOp ρ o).run P w = .ok .skip w' := by
  simp [execOp, ho, h]
theorem owns_cells {ρ : Nat → Value} {M : Mem} {b : Nat} {vs : List Cell} (hb : M[b]? = some (.cells vs)) : ∀ g, blkOf (ρ b) = some g → Owns ρ M b g := by
  intro g hg; unfold Owns; rw [hb]; exact hg
theorem owns_row {ρ : Nat → Value} {M : Mem} {b : Nat} {t : RTy} {xs : List t.T} (hb : M[b]? = some (.row t xs)) : ∀ g, blkOf (ρ b) = some g → Owns ρ M b g := by
  intro g hg; unfold Owns; rw [hb]; exact hg
theorem blkOf_slice {g n cap : Nat} (h : 0 < cap) : blkOf (.slice (some ⟨g, 0, none⟩) n cap) = some g := by
  obtain ⟨c, rfl⟩ : ∃ c, cap = c + 1 := ⟨cap - 1, by omega⟩
  rfl

/-- A row whose content changes. -/
theorem row_change {X : Cx} {ρ : Nat → Value} {M : Mem} {w : World} {b g cap : Nat} {cur : Array Value} {t : RTy} {xs ys : List t.T} (hR : Rep X ρ M w) (hb : M[b]? = some (.row t xs))
    (hu : ρ b = .slice (some ⟨g, 0, none⟩) xs.length cap) (hc : 0 < cap) (hg : w.heap[g]? = some (.cells cur (X.eid t) (0, 0))) (h1 : xs.length ≤ cap) (h2 : cap ≤ maxLen) {cur' : Array Value}
    (hs : cur'.size = cap * t.sz) (hl : ys.length = xs.length) (hv : cur'.toList.take (ys.length * t.sz) = vals t ys) :
    Rep X ρ (M.set b (.row t ys)) (w.setRow g cur') ∧ Ext w ρ M (w.setRow g cur') ρ (M.set b (.row t ys)) := by
  refine hR.change hb (by simp [Blk.shape, hl]) (owns_row hb) (fun k hk => ?_) (by simp) rfl rfl rfl ?_
  · refine setRow_other w g k _ fun hkg => hk ?_
    rw [hu, blkOf_slice hc, hkg]
  · exact .inr ⟨g, cap, cur', by rw [hu, hl], hc, setRow_heap w g cur _ _ _ hg, by omega, h2, hs, hv⟩

theorem set_take_vals {t : RTy} {xs : List t.T} {cur : List Value} {i off : Nat} {ps : List PC} {y : t.T} (hi : i < xs.length) (hcur : xs.length * t.sz ≤ cur.length) (h4 : cur.take (xs.length * t.sz) = vals t xs)
    (hy : t.enc y = setMany (t.enc (xs.getD i t.zero)) off ps) (hle : off + ps.length ≤ t.sz) :
    (setMany cur (i * t.sz + off) (ps.map PC.val)).take ((xs.set i y).length * t.sz) = vals t (xs.set i y) := by
  have hx := getD_of hi t.zero
  have hbnd : (i + 1) * t.sz ≤ xs.length * t.sz := Nat.mul_le_mul_right _ hi
  rw [Nat.add_mul, Nat.one_mul] at hbnd
  have hps : (ps.map PC.val).length = ps.length := by simp
  -- both sides cell by cell
  apply List.ext_getElem?
  intro k
  rw [List.length_set]
  by_cases hk : k < xs.length * t.sz
  · rw [List.getElem?_take, if_pos hk, setMany_eq _ _ _ (by rw [hps]; omega), hps]
    rw [vals_set t xs i y hi, hy, setMany_map, setMany_eq _ _ _ (by simp [RTy.enc_length]; omega)]
    have hcurk : cur[k]? = (vals t xs)[k]? := by rw [← h4, List.getElem?_take, if_pos hk]
    have hsplit := vals_split t xs i _ hx
    have hl1 : (vals t (xs.take i)).length = i * t.sz := by rw [vals_length, List.length_take, Nat.min_eq_left (by omega)]
    have hle1 : ((t.enc (xs.getD i t.zero)).map PC.val).length = t.sz := by simp [RTy.enc_length]
    rw [hps]
    by_cases h1 : k < i * t.sz
    · rw [List.append_assoc, List.getElem?_append_left (by simp; omega), List.getElem?_take, if_pos (by omega), hcurk, hsplit, List.getElem?_append_left (by omega), List.getElem?_append_left (by omega)]
    · rw [List.getElem?_append_right (show (vals t (xs.take i)).length ≤ k from by omega), hl1]
      by_cases h2 : k < i * t.sz + off
      · rw [List.append_assoc, List.getElem?_append_left (by simp; omega), List.getElem?_take, if_pos h2, hcurk, hsplit, List.getElem?_append_right (by omega), hl1, List.getElem?_append_left (by omega)]
        rw [List.getElem?_append_left (by simp [RTy.enc_length]; omega), List.append_assoc, List.getElem?_append_left (by simp [RTy.enc_length]; omega), List.getElem?_take, if_pos (by omega)]
      · by_cases h3 : k < i * t.sz + off + ps.length
        · rw [List.append_assoc, List.getElem?_append_right (by simp; omega), List.getElem?_append_left (by simp; omega)]
          rw [List.getElem?_append_left (by simp [RTy.enc_length]; omega), List.append_assoc, List.getElem?_append_right (by simp [RTy.enc_length]; omega), List.getElem?_append_left (by simp [RTy.enc_length]; omega)]
          congr 1
          simp [RTy.enc_length]; omega
        · rw [List.getElem?_append_right (by simp; omega), List.getElem?_drop]
          have hidx : i * t.sz + off + ps.length + (k - (List.take (i * t.sz + off) cur ++ List.map PC.val ps).length) = k := by simp; omega
          rw [hidx, hcurk, hsplit, List.getElem?_append_right (by omega), hl1]
          by_cases h5 : k < i * t.sz + t.sz
          · rw [List.getElem?_append_left (by omega), List.getElem?_append_left (by simp [RTy.enc_length]; omega), List.getElem?_append_right (by simp [RTy.enc_length]; omega), List.getElem?_drop]
            congr 1
            simp [RTy.enc_length]; omega
          · rw [List.getElem?_append_right (by omega), List.getElem?_append_right (by simp [RTy.enc_length]; omega)]
            congr 1
            simp [RTy.enc_length]; omega
  · rw [List.getElem?_take, if_neg hk]
    symm
    apply List.getElem?_eq_none
    rw [vals_length, List.length_set]; omega
end Lw
