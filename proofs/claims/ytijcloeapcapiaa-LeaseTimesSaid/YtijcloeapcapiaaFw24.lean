/- Loops: forgetting all but some slots and the first blocks. -/
import Derived.Test.YtijcloeapcapiaaFw23
set_option linter.unusedVariables false
namespace Lw
open Go
def mask : List Bool → List AV → List AV
  | _, [] => []
  | [], _ :: r => .junk :: mask [] r
  | b :: m, x :: r => (bif b then x else .junk) :: mask m r
def allLt (k : Nat) : List Nat → Bool
  | [] => true
  | b :: r => Nat.blt b k && allLt k r
def memLt (k : Nat) : List Blk → Bool
  | [] => true
  | x :: r => allLt k x.ids && memLt k r
def tidy (k0 : Nat) (m : List Bool) (k : Nat) (F : List AV) (M : Mem) : Bool :=
  Nat.ble k0 k && (Nat.ble k M.length && (allLt k (avidsL (mask m F)) && memLt k (M.take k)))
theorem allLt_iff {k : Nat} : ∀ {l : List Nat}, allLt k l = true → ∀ b ∈ l, b < k
  | [], _, b, hb => by cases hb
  | x :: r, h, b, hb => by
    unfold allLt at h
    rw [Bool.and_eq_true] at h
    rcases List.mem_cons.1 hb with rfl | hb
    · simpa using h.1
    · exact allLt_iff h.2 b hb
theorem memLt_iff {k : Nat} : ∀ {l : List Blk}, memLt k l = true → ∀ x ∈ l, ∀ b ∈ x.ids, b < k
  | [], _, x, hx => by cases hx
  | y :: r, h, x, hx => by
    unfold memLt at h
    rw [Bool.and_eq_true] at h
    rcases List.mem_cons.1 hx with rfl | hx
    · exact allLt_iff h.1
    · exact memLt_iff h.2 x hx
theorem avids_mem : ∀ {F : List AV} {x : AV} {b : Nat}, x ∈ F → b ∈ x.ids → b ∈ avidsL F
  | [], x, b, hx, _ => by cases hx
  | y :: r, x, b, hx, hb => by
    unfold avidsL
    rcases List.mem_cons.1 hx with rfl | hx
    · exact List.mem_append_left _ hb
    · exact List.mem_append_right _ (avids_mem hx hb)
theorem mask_length : ∀ (m : List Bool) (F : List AV), (mask m F).length = F.length
  | m, [] => by cases m <;> rfl
  | [], x :: r => by simp [mask, mask_length [] r]
  | b :: m, x :: r => by simp [mask, mask_length m r]
theorem mask_getD : ∀ (m : List Bool) (F : List AV) (s : Nat), (mask m F).getD s .junk = .junk ∨ (mask m F).getD s .junk = F.getD s .junk
  | m, [], s => by cases m <;> simp [mask]
  | [], x :: r, 0 => by simp [mask]
  | [], x :: r, s + 1 => by simpa [mask] using mask_getD [] r s
  | b :: m, x :: r, 0 => by cases b <;> simp [mask]
  | b :: m, x :: r, s + 1 => by simpa [mask] using mask_getD m r s
theorem wk_mask {k0 : Nat} {F : List AV} {M : Mem} {I : List AV → Mem → Prop} (m : List Bool) (k : Nat) (h : tidy k0 m k F M = true) (hI : I (mask m F) (M.take k)) : Wk k0 F M I := by
  unfold tidy at h
  simp only [Bool.and_eq_true] at h
  obtain ⟨h0, h1, h2, h3⟩ := h
  have h0 := Nat.le_of_ble_eq_true h0
  have h1 := Nat.le_of_ble_eq_true h1
  have hl : (M.take k).length = k := by simp; omega
  have L := Le.drop' k0 (mask m F) (M.take k) (M.drop k) (by omega) (fun x hx b hb => by rw [hl]; exact allLt_iff h2 b (avids_mem hx hb)) (fun b hb c hc => by
    rw [hl]
    refine memLt_iff h3 (Mem.at (M.take k) b) ?_ c hc
    unfold Mem.at
    rw [List.getD_eq_getElem?_getD, List.getElem?_eq_getElem hb]
    exact List.getElem_mem hb)
  rw [List.take_append_drop] at L
  refine ⟨[], (F, M), rfl, _, mask m F, M.take k, ⟨L.old, L.len, mask_length m F, fun s => ?_, L.blk, L.inj, L.out⟩, hI⟩
  rcases L.slot s with h | h
  · exact .inl h
  · rcases mask_getD m F s with h' | h'
    · exact .inl h'
    · exact .inr (h.trans h')
/-! ### What is shown of more is shown of less -/
theorem andP_mono {p : Option Prop} {q q' : Prop} (h : q → q') (k : andP p q) : andP p q' := by
  rw [andP_iff] at *; exact ⟨k.1, h k.2⟩
theorem cnd_mono {b : Bool} {p p' q q' : Prop} (h : p → p') (h' : q → q') (k : cnd b p q) : cnd b p' q' := by
  cases b
  · exact h' k
  · exact h k
theorem ifT_mono {b : Bool} {q q' : Prop} (h : q → q') (k : ifT b q) : ifT b q' := by
  cases b
  · exact k
  · exact h k
theorem sel2_mono {b w : Bool} {p p' q q' : Prop} (h : p → p') (h' : q → q') (k : sel2 b w p q) : sel2 b w p' q' := by
  cases w
  · exact cnd_mono h' h k
  · exact cnd_mono h h' k
theorem then_mono {α : Type} {k k' : α → Prop} (h : ∀ x, k x → k' x) : ∀ {t : BT α}, t.then k → t.then k'
  | .leaf r, hk => h r hk
  | .br c a b, hk => cnd_mono (then_mono h) (then_mono h) hk
theorem stepOp_mono {Γ : Gam} {τ : Tys} {o : Oper} {F : List AV} {M : Mem} {k k' : AV → Mem → Prop} (h : ∀ v N, k v N → k' v N) (hk : stepOp Γ τ o F M k) : stepOp Γ τ o F M k' := by
  unfold stepOp at *
  split
  · rename_i eq n hn
    rw [hn] at hk
    exact fun c hc => h _ _ (hk c hc)
  · rename_i hn
    rw [hn] at hk
    simp only at hk
    split
    · rename_i t ht
      rw [ht] at hk
      exact then_mono (fun x => andP_mono (h _ _)) hk
    · rename_i ht
      rw [ht] at hk
      exact hk
theorem runOps_mono {Γ : Gam} {τ : Tys} {all : List Oper} {K K' : List AV → Mem → Prop} (h : ∀ F M, K F M → K' F M) : ∀ {r : List Oper} {F : List AV} {M : Mem}, runOps Γ τ all r F M K → runOps Γ τ all r F M K'
  | [], F, M, hk => h F M hk
  | o :: r, F, M, hk => by
    unfold runOps at *
    split
    · rename_i hg
      rw [hg] at hk
      exact stepOp_mono (fun v N => runOps_mono h) hk
    · rename_i j want hg
      rw [hg] at hk
      simp only at hk
      split
      · rename_i b hb
        rw [hb] at hk
        exact sel2_mono (stepOp_mono fun v N => runOps_mono h) (runOps_mono h) hk
      · rename_i hb
        rw [hb] at hk
        exact runOps_mono h hk
      · rename_i hb
        rw [hb] at hk
        exact hk
theorem runItems_mono {Γ : Gam} {τ : Tys} {all : List Oper} {K K' : List AV → Mem → Prop} (h : ∀ F M, K F M → K' F M) : ∀ {r : List Item} {F : List AV} {M : Mem}, runItems Γ τ all r F M K → runItems Γ τ all r F M K'
  | [], F, M, hk => h F M hk
  | .one o :: r, F, M, hk => runOps_mono (fun F M => runItems_mono h) (K := fun F' M' => runItems Γ τ all r F' M' K) hk
  | .grp j w pre p :: r, F, M, hk => by
    unfold runItems at *
    split
    · rename_i b hb
      rw [hb] at hk
      simp only at hk
      split
      · rename_i q x y d hg
        rw [hg] at hk
        exact andP_mono (runItems_mono h) hk
      · rename_i hg
        rw [hg] at hk
        exact runOps_mono (fun F M => runItems_mono h) hk
    · rename_i hb
      split at hk
      · rename_i b hb'
        exact absurd hb' (hb b)
      · exact runOps_mono (fun F M => runItems_mono h) hk
theorem drGo_mono {Γ : Gam} {τ : Tys} {all : List Oper} {o : Oper} {F : List AV} {M : Mem} {k k' : List AV → Mem → Tr → Prop} (h : ∀ F M t, k F M t → k' F M t) (hk : drGo Γ τ all o F M k) : drGo Γ τ all o F M k' := by
  unfold drGo at *
  split
  · rename_i t ht
    rw [ht] at hk
    exact then_mono (fun x hx => ifT_mono (andP_mono (h _ _ _)) hx) hk
  · rename_i ht
    rw [ht] at hk
    exact hk
theorem drStep_mono {Γ : Gam} {τ : Tys} {all : List Oper} {o : Oper} {F : List AV} {M : Mem} {k k' : List AV → Mem → Tr → Prop} (h : ∀ F M t, k F M t → k' F M t) (hk : drStep Γ τ all o F M k) : drStep Γ τ all o F M k' := by
  unfold drStep at *
  split
  · rename_i hg
    rw [hg] at hk
    exact drGo_mono h hk
  · rename_i j want hg
    rw [hg] at hk
    simp only at hk
    split
    · rename_i b hb
      rw [hb] at hk
      exact sel2_mono (drGo_mono h) (h _ _ _) hk
    · rename_i hb
      rw [hb] at hk
      exact h _ _ _ hk
    · rename_i hb
      rw [hb] at hk
      exact hk
theorem runDraw_mono {Γ : Gam} {τ : Tys} {all : List Oper} {an : List (List Nat)} {K K' : List AV → Mem → Prop} (h : ∀ F M, K F M → K' F M) : ∀ {r : List Oper} {F : List AV} {M : Mem} {tr : List Tr}, runDraw Γ τ all an r F M tr K → runDraw Γ τ all an r F M tr K'
  | [], F, M, tr, hk => by
    unfold runDraw at *
    exact ifT_mono (h _ _) hk
  | o :: r, F, M, tr, hk => by
    unfold runDraw at *
    exact drStep_mono (fun F M t => runDraw_mono h) hk
theorem vc_mono {Γ : Gam} {τ : Tys} {k0 : Nat} : ∀ {c : Code} {F : List AV} {M : Mem} {K K' : Ex → List AV → Mem → Prop}, (∀ e F M, K e F M → K' e F M) → vc Γ τ k0 c F M K → vc Γ τ k0 c F M K' := by
  intro c
  induction c with
  | skip => intro F M K K' h hk; exact h _ _ _ hk
  | region id ops d =>
    intro F M K K' h hk
    cases d
    · exact runItems_mono (h _) hk
    · exact ifT_mono (b := backward 0 ops.toList) (runDraw_mono (h .normal)) hk
  | seq a b iha ihb =>
    intro F M K K' h hk
    have hk : vc Γ τ k0 a F M (kSeq Γ τ k0 b K) := hk
    show vc Γ τ k0 a F M (kSeq Γ τ k0 b K')
    refine iha (fun e F M hk => ?_) hk
    cases e
    · exact ihb h hk
    · exact h _ _ _ hk
    · exact h _ _ _ hk
  | cond c a b iha ihb =>
    intro F M K K' h hk
    have e : ∀ K, vc Γ τ k0 (.cond c a b) F M K = (match oe F c with
      | .one (.c (.pl (.bool x))) => cnd x (vc Γ τ k0 a F M K) (vc Γ τ k0 b F M K)
      | _ => False) := fun K => rfl
    rw [e] at *
    split
    · rename_i x hb
      rw [hb] at hk
      exact cnd_mono (iha h) (ihb h) hk
    · rename_i hb
      split at hk
      · rename_i x h'
        exact absurd h' (hb x)
      · exact hk
  | block id a iha =>
    intro F M K K' h hk
    have hk : vc Γ τ k0 a F M (kBlk id K) := hk
    show vc Γ τ k0 a F M (kBlk id K')
    refine iha (fun e F M hk => ?_) hk
    cases e with
    | normal => exact h _ _ _ hk
    | exit j =>
      unfold kBlk at *
      simp only at hk ⊢
      cases hb : Nat.beq j id <;> rw [hb] at hk
      · exact h _ _ _ hk
      · exact h _ _ _ hk
    | ret => exact h _ _ _ hk
  | loop a iha =>
    intro F M K K' h hk
    obtain ⟨I, h0, hI⟩ := (hk : LoopVC k0 (vc Γ τ k0 a) F M K)
    refine (⟨I, h0, fun n F M hn => iha (fun e F M hk => ?_) (hI n F M hn)⟩ : LoopVC k0 (vc Γ τ k0 a) F M K')
    cases e
    · exact hk
    · exact h _ _ _ hk
    · exact h _ _ _ hk
  | exit id => intro F M K K' h hk; exact h _ _ _ hk
  | ret => intro F M K K' h hk; exact h _ _ _ hk
  | _ => intro F M K K' h hk; exact hk
/-- Behind a round: what is kept. -/
def kNext (k0 : Nat) (m : List Bool) (k : Nat) (J : List AV → Mem → Prop) (K : Ex → List AV → Mem → Prop) (e : Ex) (F : List AV) (M : Mem) : Prop := match e with
  | .normal => ifT (tidy k0 m k F M) (J (mask m F) (M.take k))
  | e => K e F M
/-- A loop whose rounds keep an invariant over some type of states. -/
theorem loopVC_st {S : Type} {Γ : Gam} {τ : Tys} {k0 : Nat} {b : Code} {F : List AV} {M : Mem} {K : Ex → List AV → Mem → Prop} (m : List Bool) (k : Nat) (fr : S → List AV) (mem : S → Mem) (meas : S → Nat) (ok : S → Prop)
    (ht : tidy k0 m k F M = true) (h0 : ∃ s, ok s ∧ mask m F = fr s ∧ M.take k = mem s)
    (h : ∀ s, ok s → vc Γ τ k0 b (fr s) (mem s) (kNext k0 m k (fun F M => ∃ s', ok s' ∧ meas s' < meas s ∧ F = fr s' ∧ M = mem s') K)) : LoopVC k0 (vc Γ τ k0 b) F M K := by
  refine loopVC_of (fun n F M => ∃ s, ok s ∧ n = meas s ∧ F = fr s ∧ M = mem s) ?_ ?_
  · obtain ⟨s, hs, h1, h2⟩ := h0
    exact ⟨meas s, wk_mask m k ht ⟨s, hs, rfl, h1, h2⟩⟩
  · rintro n F M ⟨s, hs, rfl, rfl, rfl⟩
    refine vc_mono (fun e F M hk => ?_) (h s hs)
    cases e with
    | normal =>
      have hk : ifT (tidy k0 m k F M) (∃ s', ok s' ∧ meas s' < meas s ∧ mask m F = fr s' ∧ M.take k = mem s') := hk
      obtain ⟨ht', s', hs', hm, hF, hM⟩ := ifT_iff hk
      exact ⟨meas s', hm, wk_mask m k ht' ⟨s', hs', rfl, hF, hM⟩⟩
    | exit j => exact hk
    | ret => exact hk
end Lw
