/- Structs and slices that are built; calls of builtins; the abstract operations but for calls, together. -/
import Derived.Test.YtijcloeapcapiaaFw7
import Derived.Laws.Tables
import Derived.Great.BuildSlice
set_option linter.unusedVariables false
set_option linter.unusedSimpArgs false
namespace Lw
open Go

/-! ### 1. Filling -/
theorem foldl_set {off : Nat} : ∀ (l : List Value) (k : Nat) (cs : Array Value),
    ((l.zipIdx k).foldl (fun cs (x : Value × Nat) => cs.setIfInBounds (off + x.2) x.1) cs).toList = setMany cs.toList (off + k) l
  | [], _, _ => rfl
  | v :: r, k, cs => by
    rw [List.zipIdx_cons, List.foldl_cons, foldl_set r (k + 1)]
    simp [setMany, Nat.add_assoc]
theorem fill_eq (place : Nat → Option (Nat × Nat)) (i : Nat) (v : Value) (rest : List (Nat × Value)) (cells : Array Value) (off size : Nat) (hp : place i = some (off, size)) (hs : v.cells.size = size) (hl : off + v.cells.size ≤ cells.size) :
    Instr.fill place cells ((i, v) :: rest) = Instr.fill place (setMany cells.toList off v.cells.toList).toArray rest := by
  rw [Instr.fill, hp]
  simp only
  have hn : (decide (v.cells.size ≠ size) || decide (off + v.cells.size > cells.size)) = false := by
    simp [hs]; omega
  rw [if_neg (by simpa using hn)]
  congr 1
  apply Array.ext'
  rw [← Array.foldl_toList, Array.toList_zipIdx]
  have := foldl_set (off := off) v.cells.toList 0 cells
  simpa using this

theorem fillS_run {X : Cx} {E : Env} {flds : List FI} {places : List (Nat × Nat)} (hpl : places = flds.map fun x => (x.off, x.sz)) :
    ∀ {ps : List (Nat × AV)} {vs : List (Nat × Value)} {cs out : List Cell} {cells : Array Value}, ps.map (·.1) = vs.map (·.1) → RelF X E (ps.map (·.2)) (vs.map (·.2)) → RelCs X E cs cells.toList → fillS flds cs ps = some out →
      ∃ res : Array Value, Instr.fill (fun x => places[x]?) cells vs = some res ∧ RelCs X E out res.toList
  | [], [], cs, out, cells, _, _, hr, h => by
    simp [fillS] at h; subst h
    exact ⟨cells, rfl, hr⟩
  | (i, x) :: r, (j, v) :: s, cs, out, cells, h1, h2, hr, h => by
    simp only [List.map_cons, List.cons.injEq] at h1
    obtain ⟨rfl, h1⟩ := h1
    simp only [fillS] at h
    split at h
    · rename_i fi us hfi hus
      cases hb : (Nat.beq us.length fi.sz && Nat.ble (fi.off + us.length) cs.length) with
      | false => rw [hb] at h; cases h
      | true =>
        rw [hb] at h
        simp only [cond_true] at h
        rw [Bool.and_eq_true] at hb
        have hb1 := Nat.eq_of_beq_eq_true hb.1
        have hb2 := Nat.le_of_ble_eq_true hb.2
        have hrv := cellsOf_rel hus h2.1
        have hl1 := hrv.length
        have hl2 := hr.length
        simp at hl1 hl2
        have hst := fill_eq (fun x => places[x]?) i v s cells fi.off fi.sz (by simp [hpl, hfi]) (by omega) (by omega)
        obtain ⟨res, h3, h4⟩ := fillS_run hpl (cells := (setMany cells.toList fi.off v.cells.toList).toArray) h1 h2.2 (by simpa using RelCs.setMany hrv fi.off hr) h
        exact ⟨res, by rw [hst]; exact h3, h4⟩
    · cases h
  | [], _ :: _, _, _, _, h, _, _, _ => by simp at h
  | _ :: _, [], _, _, _, h, _, _, _ => by simp at h

theorem mapM_places {P : Program} : ∀ (fs : List Field) (ts : List (Nat × Nat)), fs.map (fun f => (f.offset, (P.info? f.type).map (·.size))) = ts.map (fun x => (x.1, some x.2)) →
    fs.mapM (fun f => (P.info? f.type).map fun i => (f.offset, i.size)) = some ts
  | [], [], _ => rfl
  | f :: r, t :: s, h => by
    simp only [List.map_cons, List.cons.injEq, Prod.mk.injEq] at h
    obtain ⟨⟨h1, h2⟩, h3⟩ := h
    rw [List.mapM_cons, mapM_places r s h3]
    cases hi : P.info? f.type with
    | none => rw [hi] at h2; cases h2
    | some i =>
      rw [hi] at h2
      have : i.size = t.2 := by simpa using h2
      obtain ⟨t1, t2⟩ := t
      simp only at h1 this
      subst h1; subst this
      rfl
  | [], _ :: _, h => by simp at h
  | _ :: _, [], h => by simp at h

theorem map_parts {X : Cx} {E : Env} {F : List AV} {a : Act} (hF : RelF X E F a.tmps.toList) (ps : Array (Nat × Operand)) :
    RelF X E ((ps.toList.map fun p => (p.1, oe F p.2)).map (·.2)) ((ps.map fun (i, x) => (i, a.eval x)).toList.map (·.2)) ∧
    (ps.toList.map fun p => (p.1, oe F p.2)).map (·.1) = ((ps.map fun (i, x) => (i, a.eval x)).toList.map (·.1)) := by
  refine ⟨?_, by simp [List.map_map, Function.comp_def]⟩
  have h := RelF.ofOp (fun y => oe_rel hF y) (ps.toList.map (·.2))
  have e1 : (ps.toList.map fun p => (p.1, oe F p.2)).map (·.2) = (ps.toList.map (·.2)).map (oe F) := by simp [List.map_map, Function.comp_def]
  have e2 : ((ps.map fun (i, x) => (i, a.eval x)).toList.map (·.2)) = (ps.toList.map (·.2)).map a.eval := by simp [List.map_map, Function.comp_def]
  rw [e1, e2]; exact h
theorem build_sound {X : Cx} {τ : Tys} (hT : Agree X τ) {o : Oper} {F : List AV} {M : Mem} {a : Act} {w : World} {ρ : Nat → Value} {x : OR} {t : TypeId} {ps : Array (Nat × Operand)} (ho : o.op = .build t ps)
    (h : aop τ o F M = some x) (hF : RelF X (envOf ρ M) F a.tmps.toList) (hR : Rep X ρ M w) : OpOk X o a w ρ M x := by
  unfold aop at h
  rw [ho] at h
  simp only at h
  split at h
  · rename_i ti hti
    have hA := hT t ti hti
    split at h
    · rename_i f0 fr z0 zr hf hz
      split at h
      · rename_i cs hcs
        cases h
        rw [← hf, ← hz] at hcs
        obtain ⟨hk, z, hzi, hzc⟩ := hA.zero (by rw [hz]; simp)
        obtain ⟨fs, hd, hm, _⟩ := hA.flds (by rw [hf]; simp)
        have hpl := mapM_places (P := X.P) fs.toList (ti.flds.map fun x => (x.off, x.sz)) (by rw [hm, List.map_map]; rfl)
        obtain ⟨hp1, hp2⟩ := map_parts hF ps
        obtain ⟨res, h1, h2⟩ := fillS_run (E := envOf ρ M) (X := X) (places := ti.flds.map fun x => (x.off, x.sz)) rfl (cells := z.cells) hp2 hp1 (by rw [hzc]; exact okZ_rel _ hk) hcs
        refine OpOk.pure hR (v := .agg res) ?_ ⟨res, rfl, h2⟩
        have hb : X.P.built t (ps.map fun (i, x) => (i, a.eval x)).toList = some res := by
          unfold Program.built
          cases hi : X.P.info? t with
          | none => rw [hi] at hzi; cases hzi
          | some it =>
            rw [hi] at hzi
            have hz' : it.zero = some z := by simpa using hzi
            simp only [hd, hz', hpl]
            have e : (fun x : Nat => (List.map (fun x : FI => (x.off, x.sz)) ti.flds).toArray[x]?) = (fun x : Nat => (List.map (fun x : FI => (x.off, x.sz)) ti.flds)[x]?) := by funext x; simp
            rw [e]
            exact h1
        simp only [execOp, ho, Sem.run_bind, run_build w t _ res hb, Result.andThen_ok, Sem.run_pure]
      · cases h
    · cases h
  · cases h

/-! ### 2. Slice literals -/
theorem mk_enc {t : RTy} {ps : List PC} {x : t.T} (h : t.mk ps = some x) : t.enc x = ps := by
  unfold RTy.mk at h
  cases hb : (ps.length == t.sz) with
  | false => rw [hb] at h; cases h
  | true =>
    rw [hb] at h
    simp only [cond_true] at h
    have hl : ps.length = t.sz := by simpa using hb
    rw [(RTy.puts_enc h).1, setMany_eq _ _ _ (by simp [RTy.enc_length, hl]), hl]
    simp [RTy.enc_length]
theorem setMany_mid {α : Type} (A B ds : List α) (h : ds.length ≤ B.length) : setMany (A ++ B) A.length ds = (A ++ ds) ++ B.drop ds.length := by
  rw [setMany_eq _ _ _ (by simp; omega)]
  simp
theorem elems_fill {X : Cx} {E : Env} {t : RTy} : ∀ {ps : List (Nat × AV)} {vs : List (Nat × Value)} {done xs : List t.T} {rest : List Value} {cells : Array Value}, ps.map (·.1) = vs.map (·.1) → RelF X E (ps.map (·.2)) (vs.map (·.2)) →
    elemsOf t done.length ps = some xs → cells.toList = vals t done ++ rest → rest.length = xs.length * t.sz → ∃ res : Array Value, Instr.fill (fun i => some (i * t.sz, t.sz)) cells vs = some res ∧ res.toList = vals t (done ++ xs)
  | [], [], done, xs, rest, cells, _, _, h, hc, hr => by
    simp [elemsOf] at h; subst h
    have : rest = [] := List.eq_nil_of_length_eq_zero (by simpa using hr)
    subst this
    exact ⟨cells, rfl, by simpa using hc⟩
  | (i, x) :: r, (j, v) :: s, done, xs, rest, cells, h1, h2, h, hc, hr => by
    simp only [List.map_cons, List.cons.injEq] at h1
    obtain ⟨rfl, h1⟩ := h1
    simp only [elemsOf] at h
    cases hb : Nat.beq i done.length with
    | false => rw [hb] at h; cases h
    | true =>
      rw [hb] at h
      simp only [cond_true] at h
      have hi := Nat.eq_of_beq_eq_true hb
      subst hi
      split at h
      · rename_i cs hcs
        split at h
        · rename_i pcs hpcs
          split at h
          · rename_i y ys hy hys
            cases h
            have hrv := cellsOf_rel hcs h2.1
            rw [plOf_eq hpcs] at hrv
            have hv := hrv.vals
            rw [← mk_enc hy] at hv
            have hvl : v.cells.size = t.sz := by have := congrArg List.length hv; simpa [RTy.enc_length] using this
            have hdl : (vals t done).length = done.length * t.sz := vals_length t done
            have hcl : cells.size = done.length * t.sz + (ys.length + 1) * t.sz := by
              have := congrArg List.length hc
              simp [hdl, hr] at this
              exact this
            rw [fill_eq _ _ v s cells (done.length * t.sz) t.sz rfl hvl (by rw [hcl, hvl, Nat.add_mul, Nat.one_mul]; omega)]
            have hset : setMany cells.toList (done.length * t.sz) v.cells.toList = vals t (done ++ [y]) ++ rest.drop t.sz := by
              rw [hc, ← hdl, setMany_mid _ _ _ (by simp [hvl, hr, Nat.add_mul]), hv, vals_append]
              simp [vals, RTy.enc_length]
            have hih := elems_fill (t := t) (ps := r) (vs := s) (done := done ++ [y]) (xs := ys) (rest := rest.drop t.sz) (cells := (setMany cells.toList (done.length * t.sz) v.cells.toList).toArray) h1 h2.2 (by simpa using hys) (by rw [List.toList_toArray]; exact hset) (by rw [List.length_drop, hr]; simp [Nat.add_mul])
            obtain ⟨res, h3, h4⟩ := hih
            exact ⟨res, h3, by rw [h4]; simp⟩
          · cases h
        · cases h
      · cases h
  | [], _ :: _, _, _, _, _, h, _, _, _, _ => by simp at h
  | _ :: _, [], _, _, _, _, h, _, _, _, _ => by simp at h

/-- A new row that lies in new memory. -/
theorem row_ok {X : Cx} {o : Oper} {M : Mem} {a : Act} {w w' : World} {ρ : Nat → Value} {p : Option Prop} {t : RTy} {xs : List t.T} {u : Value} (hR : Rep X ρ M w)
    (h : (execOp a.eval o).run X.P w = .ok (.value u) w') (hw : ∀ k, k < w.heap.size → w'.heap[k]? = w.heap[k]?) (hsz : w.heap.size ≤ w'.heap.size) (hos : w'.os = w.os) (htape : w'.tape = w.tape) (hout : w'.output = w.output)
    (hb : ∀ E, RepB X E w' u (.row t xs)) (hown : ∀ g, blkOf u = some g → w.heap.size ≤ g) : OpOk X o a w ρ M ⟨p, .one (.c (.row M.length)), M ++ [.row t xs]⟩ := by
  have hp := hR.push (u := u) (x := .row t xs) hw hsz hos htape hout (hb _) hown
  refine OpOk.value h ?_ hp.1 hp.2
  show RelC X _ (.row M.length) _
  simp only [RelC, envOf_push_new ρ M u (.row t xs) rfl]
  refine ⟨trivial, ?_⟩
  rcases hb (fun _ => .out) with ⟨_, ad, hu⟩ | ⟨g, cap, cur, hu, _⟩
  · exact ⟨ad, 0, 0, hu⟩
  · exact ⟨_, _, _, hu⟩
theorem repB_new {X : Cx} {E : Env} {w : World} {t : RTy} {xs : List t.T} {g cap : Nat} {cur : Array Value} (hg : w.heap[g]? = some (.cells cur (X.eid t) (0, 0))) (h1 : xs.length ≤ cap) (h2 : cap ≤ maxLen) (h3 : cur.size = cap * t.sz)
    (h4 : cur.toList.take (xs.length * t.sz) = vals t xs) : RepB X E w (.slice (some ⟨g, 0, none⟩) xs.length cap) (.row t xs) := by
  by_cases hc : cap = 0
  · subst hc
    have : xs = [] := List.eq_nil_of_length_eq_zero (by omega)
    subst this
    exact .inl ⟨rfl, _, rfl⟩
  · exact .inr ⟨g, cap, cur, rfl, by omega, hg, h1, h2, h3, h4⟩

theorem buildSlice_sound {X : Cx} {τ : Tys} (hT : Agree X τ) {o : Oper} {F : List AV} {M : Mem} {a : Act} {w : World} {ρ : Nat → Value} {x : OR} {t : TypeId} {len : Nat} {ps : Array (Nat × Operand)} (ho : o.op = .buildSlice t len ps)
    (h : aop τ o F M = some x) (hF : RelF X (envOf ρ M) F a.tmps.toList) (hR : Rep X ρ M w) : OpOk X o a w ρ M x := by
  unfold aop at h
  rw [ho] at h
  simp only at h
  split at h
  · rename_i ti hti
    have hA := hT t ti hti
    split at h
    · rename_i rt hel
      obtain ⟨hd, j, z, hj, hsz, hz, hzc, hby⟩ := elem_of hA hel
      split at h
      · rename_i xs hxs
        cases hb : (Nat.beq xs.length len && Nat.ble len 100) with
        | false => rw [hb] at h; cases h
        | true =>
          rw [hb] at h
          cases h
          rw [Bool.and_eq_true] at hb
          have hb1 := Nat.eq_of_beq_eq_true hb.1
          have hb2 := Nat.le_of_ble_eq_true hb.2
          subst hb1
          obtain ⟨hp1, hp2⟩ := map_parts hF ps
          have hsp := rt.sz_pos
          have hs15 : rt.sz ≤ 15 := by cases rt <;> decide
          have hmul : xs.length * rt.sz ≤ 1500 := Nat.le_trans (Nat.mul_le_mul hb2 hs15) (by decide)
          by_cases h0 : xs.length = 0
          · have hnil : xs = [] := List.eq_nil_of_length_eq_zero h0
            subst hnil
            have hvs : (ps.map fun (i, x) => (i, a.eval x)).toList = [] := by
              have : (ps.toList.map fun p => (p.1, oe F p.2)) = [] := by
                cases hq : ps.toList.map fun p => (p.1, oe F p.2) with
                | nil => rfl
                | cons q r =>
                  rw [hq] at hxs
                  obtain ⟨i, v⟩ := q
                  simp only [elemsOf] at hxs
                  cases hbb : Nat.beq i 0 with
                  | false => rw [hbb] at hxs; cases hxs
                  | true =>
                    rw [hbb] at hxs
                    simp only [cond_true] at hxs
                    split at hxs
                    · split at hxs
                      · split at hxs
                        · cases hxs
                        · cases hxs
                      · cases hxs
                    · cases hxs
              have hl := congrArg List.length this
              apply List.eq_nil_of_length_eq_zero
              simpa using hl
            have hps : ps = #[] := by
              apply Array.ext'
              have hl := congrArg List.length hvs
              simp only [Array.length_toList, Array.size_map, List.length_nil] at hl
              exact List.eq_nil_of_length_eq_zero (by simpa using hl)
            have hrun : (Instr.buildSlice t 0 (ps.map fun (i, x) => (i, a.eval x))).run X.P w = .ok (.slice (some ⟨w.heap.size, 0, none⟩) 0 0) (w.alloc (.cells #[] (X.eid rt))) := by
              rw [hps]
              simp [Instr.buildSlice, run_underlying hd, run_sizeOf (show (X.P.info? (X.eid rt)).map (·.size) = some rt.sz by rw [hj]; simp [hsz]), Instr.fill, newRow]
              congr 2
              apply Array.ext'
              simp
            refine row_ok (xs := []) (u := .slice (some ⟨w.heap.size, 0, none⟩) 0 0) (w' := w.alloc (.cells #[] (X.eid rt))) hR ?_ (fun k hk => alloc_old w _ k hk) (by simp) rfl rfl rfl (fun E => .inl ⟨rfl, _, rfl⟩) (fun g hg => by simp [blkOf] at hg)
            simp only [execOp, ho, Sem.run_bind, List.length_nil]
            rw [hrun]; simp
          · have hvl : ((Array.range (xs.length * j.size)).map (z.cells[· % z.cells.size]!)).toList.length = xs.length * rt.sz := by simp [hsz]
            obtain ⟨res, h1, h2⟩ := elems_fill (X := X) (E := envOf ρ M) (t := rt) (done := []) (xs := xs) (rest := ((Array.range (xs.length * j.size)).map (z.cells[· % z.cells.size]!)).toList) (cells := (Array.range (xs.length * j.size)).map (z.cells[· % z.cells.size]!)) hp2 hp1 hxs (by simp [vals]) hvl
            simp only [List.nil_append] at h2
            have hrun := run_buildSlice (P := X.P) w t (X.eid rt) xs.length (ps.map fun (i, x) => (i, a.eval x)) res j z hd hj hz (by rw [hsz]; omega) (by rw [hsz]; exact Nat.ne_of_gt (Nat.mul_pos (by omega) hsp)) (by rw [hsz]; rw [hsz] at h1; exact h1)
            have hrs : res.size = xs.length * rt.sz := by have := congrArg List.length h2; simpa [vals_length] using this
            refine row_ok (xs := xs) (u := .slice (some ⟨w.heap.size, 0, none⟩) xs.length xs.length) (w' := w.alloc (.cells res (X.eid rt))) hR ?_ (fun k hk => alloc_old w _ k hk) (by simp) rfl rfl rfl
              (fun E => repB_new (heap_alloc_new w _) (Nat.le_refl _) (by unfold maxLen; omega) hrs (by rw [← hrs, List.take_of_length_le (by simp), h2])) (fun g hg => by
                cases hx : xs.length with
                | zero => exact absurd hx h0
                | succ n => rw [hx] at hg; simp [blkOf] at hg; omega)
            simp only [execOp, ho, Sem.run_bind]
            rw [hrun]; simp
      · cases h
    · cases h
  · cases h
end Lw
