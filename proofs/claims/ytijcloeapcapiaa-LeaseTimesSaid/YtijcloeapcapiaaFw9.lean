/- Builtins; all abstract operations but calls, together. -/
import Derived.Test.YtijcloeapcapiaaFw8
set_option linter.unusedVariables false
set_option linter.unusedSimpArgs false
namespace Lw
open Go

/-! ### 1. What slices hold -/
theorem srcOf_rel {X : Cx} {ρ : Nat → Value} {M : Mem} {w : World} {t : RTy} {x : AV} {ys : List t.T} {v : Value} (hR : Rep X ρ M w) (h : srcOf M t x = some ys) (hv : RelA X (envOf ρ M) x v) :
    ∃ ad c, v = .slice ad ys.length c ∧ (ys ≠ [] → ∃ g o, ad = some ⟨g, o, none⟩ ∧ ∀ j u, (vals t ys)[j]? = some u → w.cell? ⟨g, o + j, none⟩ = some u) := by
  unfold srcOf at h
  split at h
  · cases h
    obtain ⟨ad, rfl⟩ := (hv : ∃ a, v = .slice a 0 0)
    exact ⟨ad, 0, rfl, fun hn => absurd rfl hn⟩
  · rename_i b
    split at h
    · rename_i u xs hb
      obtain ⟨rfl, hc⟩ := cast_eq h
      simp only at hc
      subst hc
      simp only [RelA, RelV1, RelC, env_at_row hb] at hv
      obtain ⟨rfl, _⟩ := hv
      rcases hR.blk b _ (of_at hb (by simp)) with ⟨rfl, ad, hu⟩ | ⟨g, cap, cur, hu, hc, hg, h1, h2, h3, h4⟩
      · exact ⟨ad, 0, hu, fun hn => absurd rfl hn⟩
      · refine ⟨_, _, hu, fun _ => ⟨g, 0, rfl, fun j u' hj => ?_⟩⟩
        rw [← h4, List.getElem?_take] at hj
        split at hj
        · rw [Nat.zero_add]; exact cell_at hg hj
        · cases hj
    · cases h
  · rename_i b lo len
    split at h
    · rename_i u xs hb
      cases hc : u.cast t xs with
      | none => rw [hc] at h; cases h
      | some zs =>
        rw [hc] at h
        simp only [Option.map_some, Option.some.injEq] at h
        obtain ⟨rfl, hc'⟩ := cast_eq hc
        simp only at hc'
        subst hc'
        simp only [RelA, RelV1, RelC, env_at_row hb] at hv
        obtain ⟨aa, cap', a', hua, hyv, hle, ha0, ha1⟩ := hv
        have hyl : ys.length = len := by rw [← h]; simp; omega
        refine ⟨a', _, by rw [hyl]; exact hyv, fun hn => ?_⟩
        have hpos : 0 < len := by
          rcases Nat.eq_zero_or_pos len with hz | hz
          · exact absurd (List.eq_nil_of_length_eq_zero (by omega)) hn
          · exact hz
        rcases hR.blk b _ (of_at hb (by simp)) with ⟨rfl, ad, hu⟩ | ⟨g, cap, cur, hu, hc, hg, h1, h2, h3, h4⟩
        · simp at hle; omega
        · rw [hu] at hua
          have hg' : some (⟨g, 0, none⟩ : Addr) = aa := by injection hua
          subst hg'
          refine ⟨g, lo * u.sz, ha1 hpos, fun j u' hj => ?_⟩
          have hval : (vals u xs)[lo * u.sz + j]? = some u' := by
            rw [← h, ← vals_take, ← vals_drop, List.getElem?_take] at hj
            split at hj
            · rwa [List.getElem?_drop] at hj
            · cases hj
          rw [← h4, List.getElem?_take] at hval
          split at hval
          · exact cell_at hg hval
          · cases hval
    · cases h
  · rename_i u xs
    obtain ⟨rfl, hc⟩ := cast_eq h
    simp only at hc
    subst hc
    obtain ⟨ad, c, hyv, _, hcells⟩ := (hv : ∃ a c, v = .slice a xs.length c ∧ _)
    refine ⟨ad, c, hyv, fun hn => ?_⟩
    obtain ⟨x0, r0, hx0⟩ : ∃ x r, xs = x :: r := by
      cases xs with
      | nil => exact absurd rfl hn
      | cons x r => exact ⟨x, r, rfl⟩
    obtain ⟨g, o, rfl, _⟩ := hcells 0 x0 (by rw [hx0]; rfl)
    refine ⟨g, o, rfl, fun j u' hj => ?_⟩
    have hlt : j < xs.length * u.sz := by rw [← vals_length]; exact (List.getElem?_eq_some_iff.1 hj).1
    have hsp := u.sz_pos
    have hi : j / u.sz < xs.length := (Nat.div_lt_iff_lt_mul hsp).2 hlt
    have hx := getD_of hi u.zero
    obtain ⟨g', o', he, hcs⟩ := hcells _ _ hx
    have he' : g = g' ∧ o = o' := by injection he with he; injection he with h1 h2; exact ⟨h1, h2⟩
    obtain ⟨rfl, rfl⟩ := he'
    have hmod := Nat.mod_lt j hsp
    have hjj : j / u.sz * u.sz + j % u.sz = j := by rw [Nat.mul_comm]; exact Nat.div_add_mod j u.sz
    have hel : ((u.enc (xs.getD (j / u.sz) u.zero)).map PC.val)[j % u.sz]? = some u' := by
      rw [← vals_elem u xs _ _ hx, List.getElem?_take, if_pos hmod, List.getElem?_drop, hjj]; exact hj
    simp only [List.getElem?_map, Option.map_eq_some_iff] at hel
    obtain ⟨p, hp, rfl⟩ := hel
    have := hcs _ p hp
    rw [hjj] at this
    have hb := World.block_lt_of_cell? _ _ this
    rw [World.cell?_of_block (w := X.W0) (hR.ro g hb)]; exact this
  · cases h

theorem live_env {ρ : Nat → Value} {M : Mem} {b : Nat} (h : live M b = true) (he : envOf ρ M b = .dead) : False := by
  unfold live at h
  unfold envOf at he
  cases hb : M[b]? with
  | none => rw [hb] at he; cases he
  | some x =>
    rw [hb] at he
    rw [at_of hb] at h
    cases x <;> simp [Blk.shape] at he h
theorem lenOf_rel {X : Cx} {ρ : Nat → Value} {M : Mem} {w : World} {x : AV} {n : Nat} {v : Value} (hR : Rep X ρ M w) (h : lenOf M x = some n) (hv : RelA X (envOf ρ M) x v) :
    ∃ ad c, v = .slice ad n c := by
  unfold lenOf at h
  split at h
  · cases h
    obtain ⟨ad, rfl⟩ := (hv : ∃ a, v = .slice a 0 0)
    exact ⟨ad, 0, rfl⟩
  · rename_i b
    split at h
    · rename_i u xs hb
      cases h
      simp only [RelA, RelV1, RelC, env_at_row hb] at hv
      obtain ⟨rfl, _⟩ := hv
      rcases hR.blk b _ (of_at hb (by simp)) with ⟨rfl, ad, hu⟩ | ⟨g, cap, cur, hu, _⟩
      · exact ⟨ad, 0, hu⟩
      · exact ⟨_, _, hu⟩
    · rename_i u m hb
      cases h
      simp only [RelA, RelV1, RelC, env_at_hidR hb] at hv
      obtain ⟨rfl, _⟩ := hv
      rcases hR.blk b _ (of_at hb (by simp)) with ⟨rfl, ad, hu⟩ | ⟨g, cap, hu, _⟩
      · exact ⟨ad, 0, hu⟩
      · exact ⟨_, _, hu⟩
    · cases h
  · rename_i b lo len
    cases hl : live M b with
    | false => rw [hl] at h; cases h
    | true =>
    rw [hl] at h
    cases h
    simp only [RelA, RelV1, RelC] at hv
    split at hv
    · exact hv.elim
    · rename_i he; exact (live_env hl he).elim
    · obtain ⟨aa, cap', a', hua, hyv, _⟩ := hv
      exact ⟨_, _, hyv⟩
    · exact hv.elim
  · rename_i u xs
    cases h
    obtain ⟨ad, c, hyv, _⟩ := (hv : ∃ a c, v = .slice a xs.length c ∧ _)
    exact ⟨ad, c, hyv⟩
  · cases h

theorem live_of {ρ : Nat → Value} {M : Mem} {b : Nat} (h : live M b = true) : ∃ s, envOf ρ M b = .ent (ρ b) s := by
  unfold live at h
  cases hb : M[b]? with
  | none => simp [Mem.at, List.getD, hb] at h
  | some x =>
    rw [at_of hb] at h
    unfold envOf
    rw [hb]
    cases x <;> first | (simp at h; done) | exact ⟨_, rfl⟩

theorem lenW_rel {X : Cx} {ρ : Nat → Value} {M : Mem} {w : World} {x : AV} {n : Nat} {v : Value} (hR : Rep X ρ M w) (h : lenW M x = some n) (hv : RelA X (envOf ρ M) x v) :
    ∃ ad c, v = .slice ad n c ∧ n ≤ c := by
  unfold lenW at h
  split at h
  · cases h
    obtain ⟨ad, rfl⟩ := (hv : ∃ a, v = .slice a 0 0)
    exact ⟨ad, 0, rfl, Nat.le_refl _⟩
  · rename_i b
    split at h
    · rename_i u xs hb
      cases h
      simp only [RelA, RelV1, RelC, env_at_row hb] at hv
      obtain ⟨rfl, _⟩ := hv
      rcases hR.blk b _ (of_at hb (by simp)) with ⟨rfl, ad, hu⟩ | ⟨g, cap, cur, hu, _, _, hle, _⟩
      · exact ⟨ad, 0, hu, Nat.le_refl _⟩
      · exact ⟨_, _, hu, hle⟩
    · cases h
  · rename_i u xs
    cases h
    obtain ⟨ad, c, hyv, hle, _⟩ := (hv : ∃ a c, v = .slice a xs.length c ∧ _)
    exact ⟨ad, c, hyv, hle⟩
  · cases h

/-! ### 2. Cuts -/
theorem run_bound {P : Program} (k : IntKind) (i : Int) (y : Nat) (code : BoundsCode) (w : World) (h0 : 0 ≤ i) (h1 : i ≤ y) : (Instr.sliceBound (.int k i) y code).run P w = .ok i.toNat w := by
  simp [Instr.sliceBound, asIntOf, h0, h1]
theorem optInt_rel {X : Cx} {E : Env} {F : List AV} {a : Act} (hF : RelF X E F a.tmps.toList) {lo : Option Operand} {l : Option Int} (h : optInt F lo = some l) :
    (lo = none ∧ l = none) ∨ ∃ x k n, lo = some x ∧ l = some n ∧ a.eval x = .int k n := by
  cases lo with
  | none => simp [optInt] at h; exact .inl ⟨rfl, h.symm⟩
  | some x =>
    simp only [optInt] at h
    split at h
    · rename_i n hn
      cases h
      obtain ⟨k, hk⟩ := intOf_rel hn (oe_rel hF x)
      exact .inr ⟨x, k, n, rfl, rfl, hk⟩
    · cases h
theorem run_bounds {X : Cx} {E : Env} {F : List AV} {a : Act} (hF : RelF X E F a.tmps.toList) {lo hi : Option Operand} {l h : Option Int} (hl : optInt F lo = some l) (hh : optInt F hi = some h) (len cap : Nat) (w : World)
    (h0 : 0 ≤ l.getD 0) (h1 : l.getD 0 ≤ h.getD len) (h2 : h.getD len ≤ cap) :
    (Instr.sliceBounds true len cap (lo.map a.eval) (hi.map a.eval) none).run X.P w = .ok ((l.getD 0).toNat, (h.getD len).toNat, cap) w := by
  rcases optInt_rel hF hl with ⟨rfl, rfl⟩ | ⟨x, k, n, rfl, rfl, hx⟩ <;> rcases optInt_rel hF hh with ⟨rfl, rfl⟩ | ⟨y, k', m, rfl, rfl, hy⟩
  · simp [Instr.sliceBounds]
  · simp only [Option.getD_none, Option.getD_some] at h0 h1 h2
    simp [Instr.sliceBounds, hy, run_bound k' m cap _ w (by omega) h2]
  · simp only [Option.getD_none, Option.getD_some] at h0 h1 h2
    simp [Instr.sliceBounds, hx, run_bound k n len _ w h0 h1]
  · simp only [Option.getD_some] at h0 h1 h2
    have e : (m.toNat : Int) = m := Int.toNat_of_nonneg (by omega)
    simp [Instr.sliceBounds, hx, hy, run_bound k' m cap _ w (by omega) h2, run_bound k n m.toNat _ w h0 (by omega)]
theorem run_slice_cut {P : Program} {t e : TypeId} {n : Nat} (hd : P.underlying t = some (.slice e)) (hs : (P.info? e).map (·.size) = some n) {lo hi : Option Value} {len cap l h : Nat} {w : World} (ad : Option Addr)
    (hb : (Instr.sliceBounds true len cap lo hi none).run P w = .ok (l, h, cap) w) :
    (Instr.sliceAt t (.slice ad len cap) lo hi none).run P w = .ok (.slice (if cap = l then ad else ad.map (·.add (l * n))) (h - l) (cap - l)) w := by
  simp only [Instr.sliceAt, Sem.run_bind, run_underlying hd, Result.andThen_ok, Instr.slice, hb, run_sizeOf hs, Sem.run_pure]
theorem execOp_slice {P : Program} {o : Oper} {t : TypeId} {x : Operand} {lo hi : Option Operand} (ho : o.op = .slice t x lo hi none) {ρ : Operand → Value} {w : World} {v : Value} (h : (Instr.sliceAt t (ρ x) (lo.map ρ) (hi.map ρ) none).run P w = .ok v w) : (execOp ρ o).run P w = .ok (.value v) w := by
  simp [execOp, ho, h]

theorem cut_rel {X : Cx} {ρ : Nat → Value} {M : Mem} {w : World} {b : Nat} {t : RTy} {xs : List t.T} (hR : Rep X ρ M w) (hb : M.at b = .row t xs) {ad : Option Addr} {cap l h : Nat} (hu : ρ b = .slice ad xs.length cap) (hlh : l ≤ h) (hh : h ≤ xs.length) :
    RelA X (envOf ρ M) (.one (.c (.sub b l (h - l)))) (.slice (if cap = l then ad else ad.map (·.add (l * t.sz))) (h - l) (cap - l)) := by
  show RelC X _ (.sub b l (h - l)) _
  simp only [RelC, env_at_row hb]
  refine ⟨ad, cap, _, hu, rfl, by omega, fun h0 => ?_, fun hp => ?_⟩
  · subst h0
    split
    · rfl
    · cases ad with
      | none => rfl
      | some x => simp [Addr.add]
  · rcases hR.blk b _ (of_at hb (by simp)) with ⟨rfl, ad', hu'⟩ | ⟨g, cap', cur, hu', hc, hg, h1, h2, h3, h4⟩
    · simp at hh; omega
    · rw [hu] at hu'
      have e1 : ad = some ⟨g, 0, none⟩ ∧ cap = cap' := by injection hu' with e1 e2 e3; exact ⟨e1, e3⟩
      obtain ⟨rfl, rfl⟩ := e1
      rw [if_neg (by omega)]
      simp [add_none]

theorem slice_sound {X : Cx} {τ : Tys} (hT : Agree X τ) {o : Oper} {F : List AV} {M : Mem} {a : Act} {w : World} {ρ : Nat → Value} {x : OR} {t : TypeId} {y : Operand} {lo hi mx : Option Operand} (ho : o.op = .slice t y lo hi mx)
    (h : aop τ o F M = some x) (hp : preOk x.pre) (hF : RelF X (envOf ρ M) F a.tmps.toList) (hR : Rep X ρ M w) : OpOk X o a w ρ M x := by
  unfold aop at h
  rw [ho] at h
  simp only at h
  have hy := oe_rel hF y
  split at h
  · split at h
    · rename_i ti l hh hti hl hhi
      have hA := hT t ti hti
      split at h
      · rename_i rt hel
        obtain ⟨hd, j, z, hj, hsz, _⟩ := elem_of hA hel
        have hs : (X.P.info? (X.eid rt)).map (·.size) = some rt.sz := by rw [hj]; simp [hsz]
        split at h
        · rename_i p v hsl
          cases h
          unfold aslice at hsl
          split at hsl
          · rename_i b hoe
            rw [hoe] at hy
            split at hsl
            · rename_i u xs hb
              cases hu : u.same rt with
              | false => rw [hu] at hsl; cases hsl
              | true =>
                rw [hu] at hsl
                cases hsl
                have := same_eq hu; subst this
                obtain ⟨⟨p0, p1⟩, p2⟩ := (hp : (0 ≤ l.getD 0 ∧ l.getD 0 ≤ hh.getD xs.length) ∧ hh.getD xs.length ≤ xs.length)
                simp only [RelA, RelV1, RelC, env_at_row hb] at hy
                obtain ⟨hyv, _⟩ := hy
                have hform : ∃ ad cap, ρ b = .slice ad xs.length cap ∧ xs.length ≤ cap := by
                  rcases hR.blk b _ (of_at hb (by simp)) with ⟨rfl, ad, hu'⟩ | ⟨g, cap, cur, hu', hc, hg, h1, _⟩
                  · exact ⟨ad, 0, hu', Nat.le_refl _⟩
                  · exact ⟨_, cap, hu', h1⟩
                obtain ⟨ad, cap, hub, hcap⟩ := hform
                have hbd := run_bounds hF hl hhi xs.length cap w p0 p1 (by omega)
                refine OpOk.pure hR (execOp_slice ho ?_) (cut_rel hR hb hub (l := (l.getD 0).toNat) (h := (hh.getD xs.length).toNat) (by omega) (by omega))
                rw [hyv, hub]
                exact run_slice_cut hd hs ad hbd
            · cases hsl
          · rename_i b len hoe
            rw [hoe] at hy
            split at hsl
            · rename_i u xs hb
              cases hu : u.same rt with
              | false => rw [hu] at hsl; cases hsl
              | true =>
                rw [hu] at hsl
                cases hsl
                have := same_eq hu; subst this
                obtain ⟨⟨p0, p1⟩, p2⟩ := (hp : (0 ≤ l.getD 0 ∧ l.getD 0 ≤ hh.getD len) ∧ hh.getD len ≤ xs.length)
                simp only [RelA, RelV1, RelC, env_at_row hb] at hy
                obtain ⟨aa, cap, a', hub, hyv, hle, ha0, ha1⟩ := hy
                have ha := ha0 trivial
                subst ha
                have hcap : xs.length ≤ cap := by
                  rcases hR.blk b _ (of_at hb (by simp)) with ⟨rfl, ad, hu'⟩ | ⟨g, cap', cur, hu', hc, hg, h1, _⟩
                  · simp
                  · rw [hub] at hu'
                    have : cap = cap' := by injection hu'
                    omega
                have hbd := run_bounds hF hl hhi len cap w p0 p1 (by omega)
                refine OpOk.pure hR (execOp_slice ho ?_) (cut_rel hR hb hub (l := (l.getD 0).toNat) (h := (hh.getD len).toNat) (by omega) (by omega))
                rw [hyv]
                exact run_slice_cut hd hs a' hbd
            · cases hsl
          · cases hsl
        · cases h
      · cases h
    · cases h
  · rename_i m
    split at h
    · rename_i ti n l hh m' hti hn hl hhi hm
      have hA := hT t ti hti
      split at h
      · rename_i rt hel
        cases h
        obtain ⟨hd, j, z, hj, hsz, _⟩ := elem_of hA hel
        have hs : (X.P.info? (X.eid rt)).map (·.size) = some rt.sz := by rw [hj]; simp [hsz]
        obtain ⟨⟨p0, p1⟩, p2, p3⟩ := (hp : (0 ≤ l.getD 0 ∧ l.getD 0 ≤ hh) ∧ (hh ≤ m' ∧ m' ≤ n))
        obtain ⟨ad, c, hyv, hcap⟩ := lenW_rel hR hn hy
        obtain ⟨km, hkm⟩ := intOf_rel hm (oe_rel hF m)
        rcases optInt_rel hF hhi with ⟨_, he⟩ | ⟨yh, k', m'', rfl, he, hyh⟩
        · cases he
        cases he
        have em : (m'.toNat : Int) = m' := Int.toNat_of_nonneg (by omega)
        have eh : (hh.toNat : Int) = hh := Int.toNat_of_nonneg (by omega)
        have hb : (Instr.sliceBounds true n c (lo.map a.eval) ((some yh).map a.eval) (some (a.eval m))).run X.P w = .ok ((l.getD 0).toNat, hh.toNat, m'.toNat) w := by
          rcases optInt_rel hF hl with ⟨rfl, rfl⟩ | ⟨x, k, n', rfl, rfl, hx⟩
          · simp [Instr.sliceBounds, hyh, hkm, run_bound km m' c _ w (by omega) (by omega), run_bound k' hh m'.toNat _ w (by omega) (by omega)]
          · simp only [Option.getD_some] at p0 p1
            simp [Instr.sliceBounds, hyh, hkm, hx, run_bound km m' c _ w (by omega) (by omega), run_bound k' hh m'.toNat _ w (by omega) (by omega), run_bound k n' hh.toNat _ w (by omega) (by omega)]
        have hrun : (Instr.sliceAt t (a.eval y) (lo.map a.eval) ((some yh).map a.eval) (some (a.eval m))).run X.P w = .ok (.slice (if m'.toNat = (l.getD 0).toNat then ad else ad.map (·.add ((l.getD 0).toNat * rt.sz))) (hh.toNat - (l.getD 0).toNat) (m'.toNat - (l.getD 0).toNat)) w := by
          rw [hyv]
          simp only [Instr.sliceAt, Sem.run_bind, run_underlying hd, Result.andThen_ok, Instr.slice, hb, run_sizeOf hs, Sem.run_pure]
        exact OpOk.pure hR (v := .slice (if m'.toNat = (l.getD 0).toNat then ad else ad.map (·.add ((l.getD 0).toNat * rt.sz))) (hh.toNat - (l.getD 0).toNat) (m'.toNat - (l.getD 0).toNat)) (by simp only [execOp, ho, Option.map_some] at hrun ⊢; simp only [Sem.run_bind, hrun, Result.andThen_ok, Sem.run_pure]) trivial
      · cases h
    · cases h
end Lw
