/- Builtins; all abstract operations but calls, together. -/
import Derived.Test.YtijcloeapcapiaaFw10
set_option linter.unusedVariables false
set_option linter.unusedSimpArgs false
namespace Lw
open Go

/-! ### 1. Appends -/
theorem vals_one (t : RTy) (xs : List t.T) : ∀ u ∈ vals t xs, u.oneCell' = true := by
  intro v hv
  obtain ⟨l, hl, hv⟩ := List.mem_flatten.1 hv
  obtain ⟨x, _, rfl⟩ := List.mem_map.1 hl
  obtain ⟨p, _, rfl⟩ := List.mem_map.1 hv
  exact p.val_one
/-- An append to a slice that has no room at all. -/
theorem run_append_es {P : Program} (w : World) (t ty e : TypeId) (i : TypeInfo) (z : Value) (ht : P.underlying t = some (.slice e)) (hi : P.info? e = some i) (hz : i.zero = some z) (hzs : z.cells.size = i.size)
    (a0 : Option Addr) (ad : Option Addr) (m c : Nat) (news : List Value) (hl : news.length = m * i.size) (hnews : 0 < m → ∃ g o, ad = some ⟨g, o, none⟩ ∧ ∀ j v, news[j]? = some v → w.cell? ⟨g, o + j, none⟩ = some v)
    (hm : m ≤ 1073741824) (hby : i.bytes ≤ 1000) :
    (m = 0 ∧ (Builtin.append_ #[t, t] ty #[.slice a0 0 0, .slice ad m c]).run P w = .ok (.slice a0 0 0) w) ∨
    ∃ cap cur, (Builtin.append_ #[t, t] ty #[.slice a0 0 0, .slice ad m c]).run P w = .ok (.slice (some ⟨w.heap.size, 0, none⟩) m cap) (w.drew.alloc (.cells cur e)) ∧ m ≤ cap ∧ cap ≤ maxLen ∧ cur.size = cap * i.size ∧ cur.toList.take (m * i.size) = news := by
  by_cases h0 : m = 0
  · subst h0
    refine .inl ⟨rfl, ?_⟩
    have hn : news = [] := List.eq_nil_of_length_eq_zero (by simpa using hl)
    cases ad <;> cases a0 <;> simp [Builtin.append_, run_underlying ht, Go.sizeOf, typeInfo, hi, Builtin.lenOf, Builtin.firstCells, loadCells, loadCellsFrom, storeCells]
  · right
    obtain ⟨g, o, rfl, hc⟩ := hnews (by omega)
    have hc' : ∀ j v, news[j]? = some v → w.cell? ((⟨g, o, none⟩ : Addr).add j) = some v := fun j v hv => by rw [add_none]; exact hc j v hv
    have hb : m * i.bytes ≤ 1073741824 * 1000 := Nat.mul_le_mul hm hby
    have hge := grownCap_ge w m 0 e
    have hcm : grownCap w m 0 e ≤ maxLen := grownCap_le_maxLen w m 0 e (by unfold maxLen; omega)
    refine ⟨grownCap w m 0 e, news.toArray ++ Builtin.zeroCells z.cells (grownCap w m 0 e - m), ?_, hge, hcm, ?_, ?_⟩
    · cases a0 with
      | none => exact run_append_nil w t ty e i z ht hi hz ⟨g, o, none⟩ m c news hl hc' (by omega) (by omega) (by omega)
      | some b =>
        have hr := run_append_grow (P := P) w t ty e i z ht hi hz b 0 0 [] (by simp) (by simp) ⟨g, o, none⟩ m c news hl hc' (by omega) (by omega) (growslice_fits (by omega) (by simp only [Nat.zero_add]; omega))
        simp only [Nat.zero_add] at hr
        simpa using hr
    · simp only [Array.size_append, List.size_toArray, size_zeroCells, hzs, hl, ← Nat.add_mul]
      congr 1; omega
    · simp only [Array.toList_append]
      rw [← hl]
      exact List.take_left

theorem append_new_ok {X : Cx} {o : Oper} {M : Mem} {a : Act} {w : World} {ρ : Nat → Value} {p : Option Prop} {t : RTy} {ys : List t.T} {cap : Nat} {cur : Array Value} (hR : Rep X ρ M w)
    (h : (execOp a.eval o).run X.P w = .ok (.value (.slice (some ⟨w.heap.size, 0, none⟩) ys.length cap)) (w.drew.alloc (.cells cur (X.eid t)))) (h1 : ys.length ≤ cap) (h2 : cap ≤ maxLen) (h3 : cur.size = cap * t.sz) (h4 : cur.toList.take (ys.length * t.sz) = vals t ys) :
    OpOk X o a w ρ M ⟨p, .one (.c (.row M.length)), M ++ [.row t ys]⟩ := by
  refine row_ok hR h (fun k hk => ?_) (by simp) rfl rfl rfl (fun E => repB_new (heap_alloc_new w.drew _) h1 h2 h3 h4) (fun g hg => ?_)
  · rw [alloc_old w.drew _ k hk]; rfl
  · cases cap with
    | zero => simp [blkOf] at hg
    | succ c => simp [blkOf] at hg; omega

/-- What rowT says of an append's types. -/
theorem rowT_of {τ : Tys} {tys : Array TypeId} {rt : RTy} (h : rowT τ tys.toList = some rt) : ∃ t ti, tys = #[t, t] ∧ τ t = some ti ∧ ti.elem = some rt := by
  unfold rowT at h
  split at h
  · rename_i t u ht
    cases hb : Nat.beq t u with
    | false => rw [hb] at h; cases h
    | true =>
      rw [hb] at h
      have := Nat.eq_of_beq_eq_true hb
      subst this
      simp only [cond_true] at h
      split at h
      · rename_i ti hti
        exact ⟨t, ti, by apply Array.ext'; exact ht, hti, h⟩
      · cases h
  · cases h

theorem append_es_sound {X : Cx} {τ : Tys} (hT : Agree X τ) {o : Oper} {F : List AV} {M : Mem} {a : Act} {w : World} {ρ : Nat → Value} {c : Go.Call} (ho : o.op = .call c) (hc : c.callee = .builtin .append) {rt : RTy} {x : AV} {ys : List rt.T}
    (hargs : c.args.toList.map (oe F) = [.one (.c .es), x]) (ht : rowT τ c.argTypes.toList = some rt) (hs : srcOf M rt x = some ys) (hp : ys.length ≤ bigRow) (hF : RelF X (envOf ρ M) F a.tmps.toList) (hR : Rep X ρ M w) :
    OpOk X o a w ρ M ⟨some (ys.length ≤ bigRow), .one (.c (.row M.length)), M ++ [.row rt ys]⟩ := by
  obtain ⟨t, ti, htys, hti, hel⟩ := rowT_of ht
  have hA := hT t ti hti
  obtain ⟨hd, i, z, hi, hsz, hz, hzc, hby⟩ := elem_of hA hel
  obtain ⟨u, v, hav, hu, hv⟩ := args2 hF hargs
  obtain ⟨a0, rfl⟩ := (hu : ∃ a, u = .slice a 0 0)
  obtain ⟨ad, cc, rfl, hcells⟩ := srcOf_rel hR hs hv
  have hzs : z.cells.size = i.size := by have := congrArg List.length hzc; simp [RTy.enc_length] at this; omega
  have hrun := run_append_es (P := X.P) w t o.type (X.eid rt) i z hd hi hz hzs a0 ad ys.length cc (vals rt ys) (by rw [vals_length, hsz]) (fun h0 => hcells (by intro e; rw [e] at h0; simp at h0)) hp hby
  rcases hrun with ⟨h0, hr⟩ | ⟨cap, cur, hr, h1, h2, h3, h4⟩
  · have hnil : ys = [] := List.eq_nil_of_length_eq_zero h0
    subst hnil
    refine row_ok (xs := []) (u := .slice a0 0 0) (w' := w) hR (execOp_builtin ho hc ?_) (fun _ _ => rfl) (Nat.le_refl _) rfl rfl rfl (fun E => .inl ⟨rfl, _, rfl⟩) (fun g hg => by cases a0 <;> simp [blkOf] at hg)
    rw [htys, hav]
    simp only [builtin, Sem.run_bind]
    rw [hr]; rfl
  · refine append_new_ok hR (execOp_builtin ho hc ?_) h1 h2 (by rw [h3, hsz]) (by rw [← hsz]; exact h4)
    rw [htys, hav]
    simp only [builtin, Sem.run_bind]
    rw [hr]; rfl

theorem blkOf_own {g n cap k : Nat} (h : blkOf (.slice (some ⟨g, 0, none⟩) n cap) = some k) : k = g := by
  cases cap with
  | zero => simp [blkOf] at h
  | succ c => simp [blkOf] at h; omega
theorem append_row_sound {X : Cx} {τ : Tys} (hT : Agree X τ) {o : Oper} {F : List AV} {M : Mem} {a : Act} {w : World} {ρ : Nat → Value} {c : Go.Call} (ho : o.op = .call c) (hc : c.callee = .builtin .append) {rt : RTy} {x : AV} {b : Nat} {zs ys : List rt.T}
    (hargs : c.args.toList.map (oe F) = [.one (.c (.row b)), x]) (ht : rowT τ c.argTypes.toList = some rt) (hz : srcOf M rt (.one (.c (.row b))) = some zs) (hs : srcOf M rt x = some ys) (hp : zs.length + ys.length ≤ bigRow) (hF : RelF X (envOf ρ M) F a.tmps.toList) (hR : Rep X ρ M w) :
    OpOk X o a w ρ M ⟨some (zs.length + ys.length ≤ bigRow), .one (.c (.row M.length)), M.set b .dead ++ [.row rt (zs ++ ys)]⟩ := by
  obtain ⟨t, ti, htys, hti, hel⟩ := rowT_of ht
  have hA := hT t ti hti
  obtain ⟨hd, i, z, hi, hsz, hzz, hzc, hby⟩ := elem_of hA hel
  obtain ⟨u, v, hav, hu, hv⟩ := args2 hF hargs
  obtain ⟨ad, cc, rfl, hcells⟩ := srcOf_rel hR hs hv
  have hzs : z.cells.size = i.size := by have := congrArg List.length hzc; simp [RTy.enc_length] at this; omega
  have hb : M.at b = .row rt zs := by
    unfold srcOf at hz
    simp only at hz
    split at hz
    · rename_i u' xs' hb
      obtain ⟨rfl, hcst⟩ := cast_eq hz
      simp only at hcst
      rw [hb, hcst]
    · cases hz
  have hb' := of_at hb (by simp)
  have hu' : u = ρ b := by
    simp only [RelA, RelV1, RelC, env_at_row hb] at hu
    exact hu.1
  subst hu'
  have hk := hR.kill b
  -- the end of the proof, whatever the new row is
  have hend : ∀ (v' : Value) (w' : World), (Builtin.append_ #[t, t] o.type #[ρ b, .slice ad ys.length cc]).run X.P w = .ok v' w' → (∀ E, RepB X E w' v' (.row rt (zs ++ ys))) →
      (∀ k, k < w.heap.size → ¬ Owns ρ M b k → w'.heap[k]? = w.heap[k]?) → w.heap.size ≤ w'.heap.size → w'.os = w.os → w'.tape = w.tape → w'.output = w.output →
      (∀ g, blkOf v' = some g → Owns ρ M b g ∨ w.heap.size ≤ g) → OpOk X o a w ρ M ⟨some (zs.length + ys.length ≤ bigRow), .one (.c (.row M.length)), M.set b .dead ++ [.row rt (zs ++ ys)]⟩ := by
    intro v' w' hr hB hw hsz' hos htp hout hown
    have hlen : (M.set b .dead).length = M.length := by simp
    have hp' := hk.1.putNew (M := M) (w' := w') (u := v') (x := .row rt (zs ++ ys)) hk.2
      (fun k hk' hor => hw k hk' fun hobk => by
        rcases hor with ⟨b', ho'⟩ | hno
        · obtain ⟨hne, ho''⟩ := owns_kill ho'
          exact hne (hR.sep b' b k ho'' hobk)
        · exact hno b hobk)
      (fun k hk' => hw k (Nat.lt_of_lt_of_le hk' hR.sz) fun hobk => by have := hR.base b k hobk; omega) hsz' hos htp hout (hB _)
      (fun g hg => by
        rcases hown g hg with ho' | hge
        · exact ⟨fun b' hb'' => by obtain ⟨hne, ho''⟩ := owns_kill hb''; exact hne (hR.sep b' b g ho'' ho'), hR.base b g ho', .inl ⟨b, ho'⟩⟩
        · exact ⟨fun b' hb'' => by have := hk.1.lt hb''; omega, Nat.le_trans hR.sz hge, .inr hge⟩)
    rw [hlen] at hp'
    refine OpOk.value (v := v') (execOp_builtin ho hc ?_) ?_ hp'.1 hp'.2
    · rw [htys, hav]
      simp only [builtin, Sem.run_bind]
      rw [hr]; rfl
    · show RelC X _ (.row M.length) _
      have he : envOf (upd ρ M.length v') (M.set b .dead ++ [.row rt (zs ++ ys)]) M.length = .ent v' (.row rt (zs ++ ys).length) := by
        have := envOf_push_new ρ (M.set b .dead) v' (.row rt (zs ++ ys)) rfl
        rwa [hlen] at this
      simp only [RelC, he]
      refine ⟨trivial, ?_⟩
      rcases hB (fun _ => .out) with ⟨_, ad', hu⟩ | ⟨g, cap, cur, hu, _⟩
      · exact ⟨ad', 0, 0, hu⟩
      · exact ⟨_, _, _, hu⟩
  rcases hR.blk b _ hb' with ⟨hnil, a0, hub⟩ | ⟨g, cap, cur, hub, hcap, hg, h1, h2, h3, h4⟩
  · subst hnil
    have hrun := run_append_es (P := X.P) w t o.type (X.eid rt) i z hd hi hzz hzs a0 ad ys.length cc (vals rt ys) (by rw [vals_length, hsz]) (fun h0 => hcells (by intro e; rw [e] at h0; simp at h0)) (by have h : 0 + ys.length ≤ 1073741824 := hp; omega) hby
    rcases hrun with ⟨h0, hr⟩ | ⟨cap, cur, hr, h1, h2, h3, h4⟩
    · have hynil : ys = [] := List.eq_nil_of_length_eq_zero h0
      subst hynil
      exact hend _ w (by rw [hub]; exact hr) (fun E => .inl ⟨rfl, _, rfl⟩) (fun _ _ _ => rfl) (Nat.le_refl _) rfl rfl rfl (fun g hg => by cases a0 <;> simp [blkOf] at hg)
    · refine hend _ (w.drew.alloc (.cells cur (X.eid rt))) (by rw [hub]; exact hr) (fun E => ?_) (fun k hk' _ => by rw [alloc_old w.drew _ k hk']; rfl) (by simp) rfl rfl rfl (fun g hg => .inr (by rw [blkOf_own hg]; exact Nat.le_refl _))
      simp only [List.nil_append]
      exact repB_new (heap_alloc_new w.drew _) h1 h2 (by rw [h3, hsz]) (by rw [← hsz]; exact h4)
  · have hbig : zs.length + ys.length ≤ 1073741824 := hp
    have hsp := rt.sz_pos
    by_cases hy0 : ys = []
    · subst hy0
      have hr : (Builtin.append_ #[t, t] o.type #[ρ b, .slice ad 0 cc]).run X.P w = .ok (ρ b) w := by
        rw [hub]
        cases ad <;> simp [Builtin.append_, run_underlying hd, Go.sizeOf, typeInfo, hi, Builtin.lenOf, Builtin.firstCells, loadCells, loadCellsFrom, storeCells, h1]
      refine hend _ w (by simpa using hr) (fun E => ?_) (fun _ _ _ => rfl) (Nat.le_refl _) rfl rfl rfl (fun k hk' => .inl (owns_row hb' k hk'))
      rw [List.append_nil]
      exact .inr ⟨g, cap, cur, hub, hcap, hg, h1, h2, h3, h4⟩
    · obtain ⟨gs, os, rfl, hcs⟩ := hcells hy0
      have hb2 : (zs.length + ys.length) * i.bytes ≤ 1073741824 * 1000 := Nat.mul_le_mul hbig hby
      have hc' : ∀ j v, (vals rt ys)[j]? = some v → w.cell? ((⟨gs, os, none⟩ : Addr).add j) = some v := fun j v hv => by rw [add_none]; exact hcs j v hv
      have hvy := vals_length rt ys
      have hvz := vals_length rt zs
      by_cases hroom : zs.length + ys.length ≤ cap
      · have hmul : (zs.length + ys.length) * rt.sz ≤ cap * rt.sz := Nat.mul_le_mul_right _ hroom
        rw [Nat.add_mul] at hmul
        have hr := run_append_room (P := X.P) w t o.type (X.eid rt) i hd hi g zs.length cap cur hg ⟨gs, os, none⟩ ys.length cc (vals rt ys) (by rw [hvy, hsz]) hc' (vals_one rt ys) hroom (by rw [hvy, hsz, h3]; omega)
        rw [hsz] at hr
        refine hend _ _ (by rw [hub]; exact hr) (fun E => ?_) (fun k hk' hno => setRow_other w g k _ fun he => hno (by rw [he]; exact owns_row hb' g (by rw [hub]; exact blkOf_slice hcap))) (by simp) rfl rfl rfl (fun k hk' => .inl (owns_row hb' k (by rw [hub, blkOf_own hk']; exact blkOf_slice hcap)))
        have := repB_new (X := X) (E := E) (t := rt) (xs := zs ++ ys) (cap := cap) (setRow_heap w g cur (cur.toList.take (zs.length * rt.sz) ++ vals rt ys ++ cur.toList.drop (zs.length * rt.sz + (vals rt ys).length)).toArray _ _ hg) (by simpa using hroom) h2
          (by simp only [List.size_toArray, List.length_append, List.length_take, List.length_drop, Array.length_toList, hvy]; omega)
          (by rw [h4, vals_append, List.length_append, Nat.add_mul, ← hvz, ← hvy, ← List.length_append]; exact List.take_left)
        simpa using this
      · have holds : ∀ j u, (vals rt zs)[j]? = some u → w.cell? ((⟨g, 0, none⟩ : Addr).add j) = some u := fun j u hj => by
          rw [add_none, Nat.zero_add]
          rw [← h4, List.getElem?_take] at hj
          split at hj
          · exact cell_at hg hj
          · cases hj
        have hr := run_append_grow (P := X.P) w t o.type (X.eid rt) i z hd hi hzz ⟨g, 0, none⟩ zs.length cap (vals rt zs) (by rw [hvz, hsz]) holds ⟨gs, os, none⟩ ys.length cc (vals rt ys) (by rw [hvy, hsz]) hc' (by omega) (by omega) (growslice_fits (by omega) (by omega))
        have hge := grownCap_ge w (zs.length + ys.length) cap (X.eid rt)
        have hcm : grownCap w (zs.length + ys.length) cap (X.eid rt) ≤ maxLen := grownCap_le_maxLen w _ _ _ (by unfold maxLen; omega)
        generalize hcap' : grownCap w (zs.length + ys.length) cap (X.eid rt) = cap' at hr hge hcm
        refine hend _ (w.drew.alloc (.cells ((vals rt zs).toArray ++ (vals rt ys).toArray ++ Builtin.zeroCells z.cells (cap' - (zs.length + ys.length))) (X.eid rt))) (by rw [hub]; exact hr) (fun E => ?_) (fun k hk' _ => by rw [alloc_old w.drew _ k hk']; rfl) (by simp) rfl rfl rfl (fun k hk' => .inr (by rw [blkOf_own hk']; exact Nat.le_refl _))
        have := repB_new (X := X) (E := E) (t := rt) (xs := zs ++ ys) (cap := cap') (heap_alloc_new w.drew (.cells ((vals rt zs).toArray ++ (vals rt ys).toArray ++ Builtin.zeroCells z.cells (cap' - (zs.length + ys.length))) (X.eid rt))) (by simpa using hge) hcm
          (by simp only [Array.size_append, List.size_toArray, size_zeroCells, hzs, hvy, hvz, hsz, ← Nat.add_mul]; congr 1; omega)
          (by simp only [Array.toList_append]; rw [vals_append, List.length_append, Nat.add_mul, ← hvz, ← hvy, ← List.length_append]; exact List.take_left)
        simpa using this

/-! ### 2. In place: an append within the row, copy, clear -/
theorem srcRow_of {M : Mem} {rt : RTy} {b : Nat} {zs : List rt.T} (hz : srcOf M rt (.one (.c (.row b))) = some zs) : M.at b = .row rt zs := by
  unfold srcOf at hz
  simp only at hz
  split at hz
  · rename_i u' xs' hb
    obtain ⟨rfl, hcst⟩ := cast_eq hz
    simp only at hcst
    rw [hb, hcst]
  · cases hz
theorem append_sub_sound {X : Cx} {τ : Tys} (hT : Agree X τ) {o : Oper} {F : List AV} {M : Mem} {a : Act} {w : World} {ρ : Nat → Value} {c : Go.Call} (ho : o.op = .call c) (hc : c.callee = .builtin .append) {rt : RTy} {b k j m : Nat} {zs ys : List rt.T}
    (hargs : c.args.toList.map (oe F) = [.one (.c (.sub b 0 k)), .one (.c (.sub b j m))]) (ht : rowT τ c.argTypes.toList = some rt) (hz : srcOf M rt (.one (.c (.row b))) = some zs) (hs : srcOf M rt (.one (.c (.sub b j m))) = some ys)
    (hp : k + m ≤ zs.length ∧ ys.length = m) (hF : RelF X (envOf ρ M) F a.tmps.toList) (hR : Rep X ρ M w) :
    OpOk X o a w ρ M ⟨some (k + m ≤ zs.length ∧ ys.length = m), .one (.c (.sub b 0 (k + m))), M.set b (.row rt (splice zs k ys))⟩ := by
  obtain ⟨t, ti, htys, hti, hel⟩ := rowT_of ht
  have hA := hT t ti hti
  obtain ⟨hd, i, z, hi, hsz, hzz, hzc, hby⟩ := elem_of hA hel
  obtain ⟨u, v, hav, hu, hv⟩ := args2 hF hargs
  obtain ⟨ad, cc, hveq, hcells⟩ := srcOf_rel hR hs hv
  have hb := srcRow_of hz
  have hb' := of_at hb (by simp)
  have hu0 := hu
  simp only [RelA, RelV1, RelC, env_at_row hb] at hu
  obtain ⟨aa, cap', a', hua, huv, hle, ha0, ha1⟩ := hu
  have ha := ha0 trivial
  subst ha
  obtain ⟨p1, p2⟩ := hp
  rcases hR.blk b _ hb' with ⟨hnil, a0, hub⟩ | ⟨g, cap, cur, hub, hcap, hg, h1, h2, h3, h4⟩
  · -- an empty row: nothing to do
    subst hnil
    have hk0 : k = 0 ∧ m = 0 := by simp at p1; exact p1
    obtain ⟨rfl, rfl⟩ := hk0
    have hy0 : ys = [] := List.eq_nil_of_length_eq_zero p2
    subst hy0
    rw [hub] at hua
    obtain ⟨rfl, rfl⟩ : a0 = a' ∧ 0 = cap' := by injection hua with e1 e2 e3; exact ⟨e1, e3⟩
    have hset : M.set b (.row rt (splice [] 0 [])) = M := by
      have : (splice ([] : List rt.T) 0 []) = [] := rfl
      rw [this]; exact set_same hb'
    have hrun : (Builtin.append_ #[t, t] o.type #[.slice a0 0 0, .slice ad 0 cc]).run X.P w = .ok (.slice a0 0 0) w := by
      cases ad <;> cases a0 <;> simp [Builtin.append_, run_underlying hd, Go.sizeOf, typeInfo, hi, Builtin.lenOf, Builtin.firstCells, loadCells, loadCellsFrom, storeCells]
    refine OpOk.value (v := .slice a0 0 0) (w' := w) (ρ' := ρ) (execOp_builtin ho hc ?_) ?_ (by show Rep X ρ (M.set b _) w; rw [hset]; exact hR) (by show Ext w ρ M w ρ (M.set b _); rw [hset]; exact Ext.refl _ _ _)
    · rw [htys, hav, huv, hveq]
      simp only [builtin, Sem.run_bind]
      have : (Value.slice a0 0 (0 - 0)) = .slice a0 0 0 := rfl
      rw [this]
      simp only [List.length_nil]
      rw [hrun]; rfl
    · show RelA X (envOf ρ (M.set b _)) _ _
      rw [hset, ← show Value.slice a0 0 (0 - 0) = .slice a0 0 0 from rfl, ← huv]
      exact hu0
  · rw [hub] at hua
    obtain ⟨hg', rfl⟩ : some (⟨g, 0, none⟩ : Addr) = a' ∧ cap = cap' := by injection hua with e1 e2 e3; exact ⟨e1, e3⟩
    subst hg'
    have hsp := rt.sz_pos
    have hle2 : k + ys.length ≤ zs.length := by omega
    obtain ⟨w', hst, hRE⟩ := store_part (ys := ys) (lo := k) hR hb' hle2 hub hcap hg h1 h2 h3 h4
    have hload : (Builtin.firstCells i.size ys.length (.slice ad ys.length cc)).run X.P w = .ok (vals rt ys).toArray w := by
      cases hy : ys with
      | nil =>
        have e0 : (vals rt ([] : List rt.T)).toArray = #[] := rfl
        rw [e0]
        cases ad <;> simp [Builtin.firstCells, loadCells, loadCellsFrom]
      | cons y0 yr =>
        obtain ⟨g2, o2, rfl, hcs⟩ := hcells (by rw [hy]; simp)
        rw [← hy]
        exact run_firstCells_some w i.size ys.length ⟨g2, o2, none⟩ ys.length cc (vals rt ys) (by rw [vals_length, hsz]) (fun jj u' hj => by rw [add_none]; exact hcs jj u' hj)
    have hrun : (Builtin.append_ #[t, t] o.type #[.slice (some ⟨g, 0, none⟩) k cap, .slice ad ys.length cc]).run X.P w = .ok (.slice (some ⟨g, 0, none⟩) (k + ys.length) cap) w' := by
      have hneed : k + ys.length ≤ cap := by omega
      have hst' : (storeCells ((⟨g, 0, none⟩ : Addr).add (k * i.size)) (vals rt ys)).run X.P w = .ok () w' := by rw [add_none, Nat.zero_add, hsz]; exact hst
      simp [Builtin.append_, run_underlying hd, Go.sizeOf, typeInfo, hi, Builtin.lenOf, hneed, hload, hst']
    refine OpOk.value (v := .slice (some ⟨g, 0, none⟩) (k + ys.length) cap) (execOp_builtin ho hc ?_) ?_ hRE.1 hRE.2
    · rw [htys, hav, huv, hveq]
      simp only [builtin, Sem.run_bind, Nat.sub_zero]
      rw [hrun]; rfl
    · show RelC X (envOf ρ (M.set b _)) (.sub b 0 (k + m)) _
      rw [envOf_set hb' (by simp [Blk.shape, splice_length hle2])]
      simp only [RelC, env_at_row hb]
      exact ⟨_, cap, _, hub, by rw [p2]; rfl, by omega, fun _ => rfl, fun _ => by simp⟩

theorem min_take {α : Type} (xs : List α) (n : Nat) : (xs.take n).length = Nat.min xs.length n := by rw [List.length_take]; exact Nat.min_comm _ _
theorem copy_sound {X : Cx} {τ : Tys} (hT : Agree X τ) {o : Oper} {F : List AV} {M : Mem} {a : Act} {w : World} {ρ : Nat → Value} {c : Go.Call} (ho : o.op = .call c) (hc : c.callee = .builtin .copy) {t : TypeId} {ti : TI} {rt : RTy} {x y : AV} {b lo len : Nat} {zs ys : List rt.T} {tr : List TypeId}
    (hargs : c.args.toList.map (oe F) = [x, y]) (htys : c.argTypes.toList = t :: tr) (hti : τ t = some ti) (hel : ti.elem = some rt) (hdst : dstOf M rt x = some (b, zs, lo, len)) (hs : srcOf M rt y = some ys)
    (hp : lo + len ≤ zs.length) (hF : RelF X (envOf ρ M) F a.tmps.toList) (hR : Rep X ρ M w) :
    OpOk X o a w ρ M ⟨some (lo + len ≤ zs.length), intAV .i64 (Nat.min ys.length len), M.set b (.row rt (splice zs lo (ys.take len)))⟩ := by
  have hA := hT t ti hti
  obtain ⟨hd, i, z, hi, hsz, hzz, hzc, hby⟩ := elem_of hA hel
  obtain ⟨u, v, hav, hu, hv⟩ := args2 hF hargs
  obtain ⟨ad, cc, rfl, hcells⟩ := srcOf_rel hR hs hv
  obtain ⟨hb', ad2, c2, rfl, hpos⟩ := dstOf_rel hR hdst hp hu
  have h0 := list1 htys
  have hmin := min_take ys len
  have hload : (Builtin.firstCells i.size (Nat.min ys.length len) (.slice ad ys.length cc)).run X.P w = .ok (vals rt (ys.take len)).toArray w := by
    cases hy : ys.take len with
    | nil =>
      have e0 : (vals rt ([] : List rt.T)).toArray = #[] := rfl
      have e1 : Nat.min ys.length len = 0 := by rw [← hmin, hy]; rfl
      rw [e0, e1]
      cases ad <;> simp [Builtin.firstCells, loadCells, loadCellsFrom]
    | cons y0 yr =>
      obtain ⟨g2, o2, rfl, hcs⟩ := hcells (by intro e; rw [e] at hy; simp at hy)
      rw [← hy, ← hmin]
      refine run_firstCells_some w i.size _ ⟨g2, o2, none⟩ ys.length cc (vals rt (ys.take len)) (by rw [vals_length, hsz]) (fun jj u' hj => ?_)
      rw [add_none]
      refine hcs jj u' ?_
      rw [← vals_take, List.getElem?_take] at hj
      split at hj
      · exact hj
      · cases hj
  by_cases hz0 : ys.take len = []
  · -- nothing is copied
    have hset : M.set b (.row rt (splice zs lo (ys.take len))) = M := by
      rw [hz0]
      have : splice zs lo ([] : List rt.T) = zs := by simp [splice]
      rw [this]; exact set_same hb'
    have hrun : (Builtin.copy_ c.argTypes o.type #[.slice ad2 len c2, .slice ad ys.length cc]).run X.P w = .ok (.int .i64 (Nat.min ys.length len)) w := by
      rw [hz0] at hload
      have e0 : (vals rt ([] : List rt.T)).toArray = #[] := rfl
      rw [e0] at hload
      cases ad2 <;> simp [Builtin.copy_, h0, run_underlying hd, Go.sizeOf, typeInfo, hi, Builtin.lenOf, hload, storeCells, goInt]
    refine OpOk.value (v := .int .i64 (Nat.min ys.length len)) (w' := w) (ρ' := ρ) (execOp_builtin ho hc ?_) rfl (by show Rep X ρ (M.set b _) w; rw [hset]; exact hR) (by show Ext w ρ M w ρ (M.set b _); rw [hset]; exact Ext.refl _ _ _)
    rw [hav]
    simp only [builtin, Sem.run_bind]
    rw [hrun]; rfl
  · have hlp : 0 < len := by
      rcases Nat.eq_zero_or_pos len with hz | hz
      · subst hz; exact absurd (by simp) hz0
      · exact hz
    obtain ⟨g, cap, cur, rfl, hub, hcap, hg, h1, h2, h3, h4⟩ := hpos hlp
    have hle2 : lo + (ys.take len).length ≤ zs.length := by rw [List.length_take]; omega
    obtain ⟨w', hst, hRE⟩ := store_part (ys := ys.take len) (lo := lo) hR hb' hle2 hub hcap hg h1 h2 h3 h4
    have hrun : (Builtin.copy_ c.argTypes o.type #[.slice (some ⟨g, lo * rt.sz, none⟩) len c2, .slice ad ys.length cc]).run X.P w = .ok (.int .i64 (Nat.min ys.length len)) w' := by
      simp [Builtin.copy_, h0, run_underlying hd, Go.sizeOf, typeInfo, hi, Builtin.lenOf, hload, hst, goInt]
    refine OpOk.value (v := .int .i64 (Nat.min ys.length len)) (execOp_builtin ho hc ?_) rfl hRE.1 hRE.2
    rw [hav]
    simp only [builtin, Sem.run_bind]
    rw [hrun]; rfl

theorem zeroCells_vals {t : RTy} {z : Value} (hz : z.cells.toList = (t.enc t.zero).map PC.val) : ∀ n, (Builtin.zeroCells z.cells n).toList = vals t (List.replicate n t.zero) := by
  have hl : z.cells.size = t.sz := by have := congrArg List.length hz; simpa [RTy.enc_length] using this
  intro n
  apply List.ext_getElem?
  intro k
  have hsp := t.sz_pos
  by_cases hk : k < n * t.sz
  · have hi : k / t.sz < n := (Nat.div_lt_iff_lt_mul hsp).2 hk
    have hmod := Nat.mod_lt k hsp
    have hjj : k / t.sz * t.sz + k % t.sz = k := by rw [Nat.mul_comm]; exact Nat.div_add_mod k t.sz
    have hel := vals_elem t (List.replicate n t.zero) (k / t.sz) t.zero (by rw [List.getElem?_replicate, if_pos hi])
    have h1 : (vals t (List.replicate n t.zero))[k]? = ((t.enc t.zero).map PC.val)[k % t.sz]? := by
      rw [← hel, List.getElem?_take, if_pos hmod, List.getElem?_drop, hjj]
    rw [h1, ← hz]
    simp only [Builtin.zeroCells, hl, Array.toList_map, Array.toList_range, List.getElem?_map, List.getElem?_range hk, Option.map_some]
    rw [getElem!_pos z.cells (k % t.sz) (by omega), Array.getElem?_toList, Array.getElem?_eq_getElem (by omega)]
  · rw [List.getElem?_eq_none, List.getElem?_eq_none]
    · rw [vals_length]; simp; omega
    · simp [Builtin.zeroCells, hl]; omega
theorem clear_sound {X : Cx} {τ : Tys} (hT : Agree X τ) {o : Oper} {F : List AV} {M : Mem} {a : Act} {w : World} {ρ : Nat → Value} {c : Go.Call} (ho : o.op = .call c) (hc : c.callee = .builtin .clear) {t : TypeId} {ti : TI} {rt : RTy} {x : AV} {b lo len : Nat} {zs : List rt.T} {tr : List TypeId}
    (hargs : c.args.toList.map (oe F) = [x]) (htys : c.argTypes.toList = t :: tr) (hti : τ t = some ti) (hel : ti.elem = some rt) (hdst : dstOf M rt x = some (b, zs, lo, len))
    (hp : lo + len ≤ zs.length) (hF : RelF X (envOf ρ M) F a.tmps.toList) (hR : Rep X ρ M w) :
    OpOk X o a w ρ M ⟨some (lo + len ≤ zs.length), .tup [], M.set b (.row rt (splice zs lo (List.replicate len rt.zero)))⟩ := by
  have hA := hT t ti hti
  obtain ⟨hd, i, z, hi, hsz, hzz, hzc, hby⟩ := elem_of hA hel
  obtain ⟨u, hav, hu⟩ := args1 hF hargs
  obtain ⟨hb', ad2, c2, rfl, hpos⟩ := dstOf_rel hR hdst hp hu
  have h0 := list1 htys
  by_cases hl0 : len = 0
  · subst hl0
    have hset : M.set b (.row rt (splice zs lo (List.replicate 0 rt.zero))) = M := by
      have : splice zs lo (List.replicate 0 rt.zero) = zs := by simp [splice]
      rw [this]; exact set_same hb'
    have hrun : (Builtin.clear_ c.argTypes o.type #[.slice ad2 0 c2]).run X.P w = .ok (.tuple #[]) w := by
      cases ad2 <;> simp [Builtin.clear_, h0, run_underlying hd]
    refine OpOk.value (v := .tuple #[]) (w' := w) (ρ' := ρ) (execOp_builtin ho hc ?_) ⟨#[], rfl, trivial⟩ (by show Rep X ρ (M.set b _) w; rw [hset]; exact hR) (by show Ext w ρ M w ρ (M.set b _); rw [hset]; exact Ext.refl _ _ _)
    rw [hav]
    simp only [builtin, Sem.run_bind]
    rw [hrun]; rfl
  · obtain ⟨g, cap, cur, rfl, hub, hcap, hg, h1, h2, h3, h4⟩ := hpos (by omega)
    obtain ⟨w', hst, hRE⟩ := store_part (ys := List.replicate len rt.zero) (lo := lo) hR hb' (by simpa using hp) hub hcap hg h1 h2 h3 h4
    have hrun : (Builtin.clear_ c.argTypes o.type #[.slice (some ⟨g, lo * rt.sz, none⟩) len c2]).run X.P w = .ok (.tuple #[]) w' := by
      obtain ⟨l', rfl⟩ : ∃ l', len = l' + 1 := ⟨len - 1, by omega⟩
      simp [Builtin.clear_, h0, run_underlying hd, zeroValue, typeInfo, hi, hzz, zeroCells_vals hzc, hst]
    refine OpOk.value (v := .tuple #[]) (execOp_builtin ho hc ?_) ⟨#[], rfl, trivial⟩ hRE.1 hRE.2
    rw [hav]
    simp only [builtin, Sem.run_bind]
    rw [hrun]; rfl
end Lw
