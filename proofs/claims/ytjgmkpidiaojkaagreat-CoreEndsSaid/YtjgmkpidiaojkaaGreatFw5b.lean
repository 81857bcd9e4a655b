/- The abstract machine (equality of structs). -/
import Derived.Test.YtjgmkpidiaojkaaGreatFw9
import Derived.Laws.StructEq
import Derived.ChangeKeysEq
/- Equality of structs of plain cells, cell by cell. -/
set_option linter.unusedVariables false
namespace Lw
open Go
/-- The plain cells of a type whose values are compared cell by cell. -/
def eqLayF (P : Program) (f : TypeId → Option (List PC)) : Nat → List Field → Option (List PC)
  | _, [] => some []
  | off, g :: r => bif g.name != "_" && Nat.beq g.offset off then match f g.type with
      | some zs => bif Nat.beq (P.cellsOf g.type) zs.length then match eqLayF P f (off + zs.length) r with
        | some ys => some (zs ++ ys)
        | none => none
        else none
      | none => none
    else none
def eqLay (P : Program) : Nat → TypeId → Option (List PC)
  | 0, _ => none
  | n + 1, t => match P.underlying t with
    | some (.int k) => some [.int k 0]
    | some .bool => some [.bool false]
    | some .string => some [.str .empty]
    | some (.struct fs) => bif P.stoodInHeld t then none else eqLayF P (eqLay P n) 0 fs.toList
    | _ => none
def mkV (P : Program) (t : TypeId) (ps : List PC) : Value := match P.underlying t with
  | some (.struct _) => .agg (ps.map PC.val).toArray
  | _ => match ps with
    | p :: _ => p.val
    | [] => .agg #[]
theorem sameKinds_length : ∀ {zs ps : List PC}, sameKinds zs ps = true → ps.length = zs.length
  | [], [], _ => rfl
  | [], _ :: _, h => by cases h
  | _ :: _, [], h => by cases h
  | a :: r, b :: s, h => by
    unfold sameKinds at h
    rw [Bool.and_eq_true] at h
    simp [sameKinds_length h.2]
theorem sameKinds_append : ∀ {zs ys ps : List PC}, sameKinds (zs ++ ys) ps = true → sameKinds zs (ps.take zs.length) = true ∧ sameKinds ys (ps.drop zs.length) = true
  | [], ys, ps, h => ⟨by simp [sameKinds], by simpa using h⟩
  | a :: r, ys, [], h => by cases h
  | a :: r, ys, b :: s, h => by
    rw [List.cons_append] at h
    unfold sameKinds at h
    rw [Bool.and_eq_true] at h
    obtain ⟨h1, h2⟩ := sameKinds_append h.2
    refine ⟨?_, by simpa using h2⟩
    simp only [List.length_cons, List.take_succ_cons]
    unfold sameKinds
    rw [h.1, h1]; rfl
theorem pcsEq_cons (a b : PC) (r s : List PC) : pcsEq (a :: r) (b :: s) = (pcEq a b && pcsEq r s) := by
  cases r <;> cases s <;> simp [pcsEq]
theorem pcsEq_append : ∀ {a b r s : List PC}, a.length = b.length → pcsEq (a ++ r) (b ++ s) = (pcsEq a b && pcsEq r s)
  | [], [], r, s, _ => by simp [pcsEq]
  | x :: a, y :: b, r, s, h => by
    rw [List.cons_append, List.cons_append, pcsEq_cons, pcsEq_cons, pcsEq_append (by simpa using h), Bool.and_assoc]
  | [], _ :: _, _, _, h => by simp at h
  | _ :: _, [], _, _, h => by simp at h
theorem part_mkV {P : Program} {t : TypeId} {zs Q : List PC} {off : Nat} {w : World} {d : TypeDesc} (hd : P.underlying t = some d) (hz : (∃ fs, d = .struct fs) ∨ ((∃ k, d = .int k) ∨ d = .bool ∨ d = .string) ∧ zs.length = 1) (hc : P.cellsOf t = zs.length) (hl : off + zs.length ≤ Q.length) :
    (part t (Q.map PC.val).toArray off).run P w = .ok (mkV P t ((Q.drop off).take zs.length)) w := by
  obtain ⟨i, hi⟩ := info_of_underlying hd
  rcases hz with ⟨fs, rfl⟩ | ⟨hz, h1⟩
  · unfold mkV
    rw [hd]
    have e : (Q.map PC.val).toArray.extract off (off + P.cellsOf t) = (((Q.drop off).take zs.length).map PC.val).toArray := by
      apply Array.toList_inj.1
      rw [Array.toList_extract, hc]
      simp [List.extract, List.map_take, List.map_drop]
    simp only [part, isAgg]
    simp only [Sem.run_bind, run_underlying hd, Result.andThen_ok]
    simp [Go.run_sizeOf w hi, e]
    rw [hc]
  · have hlt : off < Q.length := by omega
    have hp : P.plainKey t = true := by
      unfold Program.plainKey
      rw [hd]
      rcases hz with ⟨k, rfl⟩ | rfl | rfl <;> rfl
    have hx : (Q.map PC.val).toArray[off]? = some (Q[off].val) := by simp [hlt]
    rw [run_part_plain w hp hx]
    congr 1
    unfold mkV
    rw [hd, h1, List.drop_eq_getElem_cons hlt]
    rcases hz with ⟨k, rfl⟩ | rfl | rfl <;> rfl
theorem eqLay_desc {P : Program} {n : Nat} {t : TypeId} {zs : List PC} (h : eqLay P n t = some zs) : ∃ d, P.underlying t = some d ∧ ((∃ fs, d = .struct fs) ∨ ((∃ k, d = .int k) ∨ d = .bool ∨ d = .string) ∧ zs.length = 1) := by
  cases n with
  | zero => cases h
  | succ n =>
    unfold eqLay at h
    split at h
    · rename_i k hk; cases h; exact ⟨_, hk, .inr ⟨.inl ⟨k, rfl⟩, rfl⟩⟩
    · rename_i hk; cases h; exact ⟨_, hk, .inr ⟨.inr (.inl rfl), rfl⟩⟩
    · rename_i hk; cases h; exact ⟨_, hk, .inr ⟨.inr (.inr rfl), rfl⟩⟩
    · rename_i fs hk; exact ⟨_, hk, .inl ⟨fs, rfl⟩⟩
    · cases h
theorem eqFields_run {P : Program} {f : TypeId → Option (List PC)} {d : Nat} (hf : ∀ (t : TypeId) (zs : List PC), f t = some zs → (∃ d, P.underlying t = some d ∧ ((∃ fs, d = .struct fs) ∨ ((∃ k, d = .int k) ∨ d = .bool ∨ d = .string) ∧ zs.length = 1)) ∧
      ∀ ps qs w, sameKinds zs ps = true → sameKinds zs qs = true → (Op.equalIn d t (mkV P t ps) (mkV P t qs)).run P w = .ok (pcsEq ps qs) w) (Q R : List PC) :
    ∀ (fs : List Field) (off : Nat) (zs : List PC), eqLayF P f off fs = some zs → sameKinds zs (Q.drop off) = true → sameKinds zs (R.drop off) = true → off ≤ Q.length → off ≤ R.length → ∀ w, (Op.eqFields d (Q.map PC.val).toArray (R.map PC.val).toArray fs).run P w = .ok (pcsEq (Q.drop off) (R.drop off)) w
  | [], off, zs, h, hq, hr, hlq, hlr, w => by
    cases h
    have h1 := sameKinds_length hq
    have h2 := sameKinds_length hr
    rw [List.length_eq_zero_iff.1 h1, List.length_eq_zero_iff.1 h2]
    rfl
  | g :: r, off, zs, h, hq, hr, hlq, hlr, w => by
    unfold eqLayF at h
    cases hn : (g.name != "_" && Nat.beq g.offset off) with
    | false => rw [hn] at h; cases h
    | true =>
      rw [hn] at h
      simp only [cond_true] at h
      rw [Bool.and_eq_true] at hn
      have hoff := Nat.eq_of_beq_eq_true hn.2
      have hname : g.name ≠ "_" := by simpa using hn.1
      split at h
      · rename_i zs1 hz1
        obtain ⟨⟨dd, hd, hk⟩, heq⟩ := hf _ _ hz1
        cases hc : Nat.beq (P.cellsOf g.type) zs1.length with
        | false => rw [hc] at h; cases h
        | true =>
          rw [hc] at h
          simp only [cond_true] at h
          have hc := Nat.eq_of_beq_eq_true hc
          split at h
          · rename_i ys hys
            cases h
            have lq := sameKinds_length hq
            have lr := sameKinds_length hr
            simp only [List.length_drop, List.length_append] at lq lr
            obtain ⟨q1, q2⟩ := sameKinds_append hq
            obtain ⟨r1, r2⟩ := sameKinds_append hr
            rw [List.drop_drop] at q2 r2
            have ih := eqFields_run hf Q R r (off + zs1.length) ys hys q2 r2 (by omega) (by omega) w
            unfold Op.eqFields
            rw [if_pos hname, hoff]
            simp only [Sem.run_bind]
            rw [part_mkV hd hk hc (by omega)]
            simp only [Result.andThen_ok]
            rw [part_mkV hd hk hc (by omega)]
            simp only [Result.andThen_ok]
            rw [heq _ _ w q1 r1]
            simp only [Result.andThen_ok]
            have e : pcsEq (Q.drop off) (R.drop off) = (pcsEq ((Q.drop off).take zs1.length) ((R.drop off).take zs1.length) && pcsEq (Q.drop (off + zs1.length)) (R.drop (off + zs1.length))) := by
              have e1 := List.take_append_drop zs1.length (Q.drop off)
              have e2 := List.take_append_drop zs1.length (R.drop off)
              rw [List.drop_drop] at e1 e2
              rw [← pcsEq_append (by simp; omega), e1, e2]
            rw [e]
            cases pcsEq ((Q.drop off).take zs1.length) ((R.drop off).take zs1.length)
            · simp
            · simp only [Bool.not_true, Bool.false_eq_true, if_false, Bool.true_and]
              exact ih
          · cases h
      · cases h
theorem kEq_eq' {j k : IntKind} (h : kEq j k = true) : j = k := by cases j <;> cases k <;> first | rfl | cases h
theorem eqLay_run {P : Program} : ∀ (n : Nat) (t : TypeId) (zs : List PC), eqLay P n t = some zs → ∀ d, n ≤ d → ∀ ps qs w, sameKinds zs ps = true → sameKinds zs qs = true → (Op.equalIn d t (mkV P t ps) (mkV P t qs)).run P w = .ok (pcsEq ps qs) w
  | 0, t, zs, h => by cases h
  | n + 1, t, zs, h => by
    intro d hd ps qs w hp hq
    obtain ⟨d, rfl⟩ : ∃ e, d = e + 1 := ⟨d - 1, by omega⟩
    have one : ∀ {z : PC} {xs : List PC}, sameKinds [z] xs = true → ∃ p, xs = [p] ∧ sameKind z p = true := fun {z xs} hx => by
      match xs, hx with
      | [p], hx => exact ⟨p, rfl, by simpa [sameKinds] using hx⟩
      | [], hx => cases hx
      | _ :: _ :: _, hx => simp [sameKinds] at hx
    unfold eqLay at h
    split at h
    · rename_i k hk
      cases h
      obtain ⟨p, rfl, hp'⟩ := one hp
      obtain ⟨q, rfl, hq'⟩ := one hq
      clear one
      unfold mkV; rw [hk]
      cases p <;> try exact Bool.noConfusion (show false = true from hp')
      cases q <;> try exact Bool.noConfusion (show false = true from hq')
      rename_i k1 n1 k2 n2
      have e1 := kEq_eq' hp'
      have e2 := kEq_eq' hq'
      subst e1; subst e2
      exact run_equalIn_int w d t _ _ _ _ hk
    · rename_i hk
      cases h
      obtain ⟨p, rfl, hp'⟩ := one hp
      obtain ⟨q, rfl, hq'⟩ := one hq
      clear one
      unfold mkV; rw [hk]
      cases p <;> try exact Bool.noConfusion (show false = true from hp')
      cases q <;> try exact Bool.noConfusion (show false = true from hq')
      exact run_equalIn_bool' w d t _ _ hk
    · rename_i hk
      cases h
      obtain ⟨p, rfl, hp'⟩ := one hp
      obtain ⟨q, rfl, hq'⟩ := one hq
      clear one
      unfold mkV; rw [hk]
      cases p <;> try exact Bool.noConfusion (show false = true from hp')
      cases q <;> try exact Bool.noConfusion (show false = true from hq')
      rename_i s1 s2
      show (Op.equalIn (d + 1) t (.string s1) (.string s2)).run P w = .ok (s1 == s2) w
      rw [run_equalIn_string w d t _ _ hk, ← beq_toListBytes]
    · rename_i fs hk
      cases hs : P.stoodInHeld t with
      | true => rw [hs] at h; cases h
      | false =>
        rw [hs] at h
        simp only [cond_false] at h
        unfold mkV; rw [hk]
        have hfo : P.underlying t = some (.struct (P.fieldsOf t)) := by unfold Program.fieldsOf; rw [hk]
        simp only
        rw [run_equalIn_agg w d t _ _ hfo hs, show (P.fieldsOf t) = fs by unfold Program.fieldsOf; rw [hk]]
        exact eqFields_run (f := eqLay P n) (fun t' zs' h' => ⟨eqLay_desc h', fun ps qs w => eqLay_run n t' zs' h' d (by omega) ps qs w⟩) ps qs fs.toList 0 zs h (by simpa using hp) (by simpa using hq) (Nat.zero_le _) (Nat.zero_le _) w
    · cases h
end Lw
