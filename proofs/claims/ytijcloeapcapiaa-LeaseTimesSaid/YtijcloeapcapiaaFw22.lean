/- Code by its place; what follows a piece of code; the end of plain functions. -/
import Derived.Test.YtijcloeapcapiaaFw21
set_option linter.unusedVariables false
set_option linter.unusedSimpArgs false
namespace Lw
open Go

def Code.at_ : Code → List Nat → Code
  | c, [] => c
  | .seq a b, n :: r => match n with
    | 0 => Code.at_ a r
    | _ => Code.at_ b r
  | .cond _ a b, n :: r => match n with
    | 0 => Code.at_ a r
    | _ => Code.at_ b r
  | .block _ a, _ :: r => Code.at_ a r
  | .loop a, _ :: r => Code.at_ a r
  | c, _ => c
def codeAt (f : Func) (p : List Nat) : Code := match f.body with
  | some c => Code.at_ c p
  | none => .skip

def kSeq (Γ : Gam) (τ : Tys) (k0 : Nat) (b : Code) (K : Ex → List AV → Mem → Prop) (e : Ex) (F : List AV) (M : Mem) : Prop := match e with
  | .normal => vc Γ τ k0 b F M K
  | e => K e F M
def kBlk (id : Nat) (K : Ex → List AV → Mem → Prop) (e : Ex) (F : List AV) (M : Mem) : Prop := match e with
  | .exit j => bif Nat.beq j id then K .normal F M else K (.exit j) F M
  | e => K e F M
def kRet (τ : Tys) (f : Func) (post : AV → Mem → Prop) (e : Ex) (F : List AV) (M : Mem) : Prop := match e with
  | .exit _ => False
  | _ => match ressOf τ F M f.results.toList with
    | some vs => post (tupOf vs) M
    | none => False
/-- Behind a round. -/
def kRound (k0 : Nat) (I : Nat → List AV → Mem → Prop) (n : Nat) (K : Ex → List AV → Mem → Prop) (e : Ex) (F : List AV) (M : Mem) : Prop := match e with
  | .normal => ∃ n', n' < n ∧ Wk k0 F M (I n')
  | e => K e F M
theorem loopVC_of {Γ : Gam} {τ : Tys} {k0 : Nat} {b : Code} {F : List AV} {M : Mem} {K : Ex → List AV → Mem → Prop} (I : Nat → List AV → Mem → Prop) (h0 : ∃ n, Wk k0 F M (I n)) (h : ∀ n F M, I n F M → vc Γ τ k0 b F M (kRound k0 I n K)) : LoopVC k0 (vc Γ τ k0 b) F M K :=
  ⟨I, h0, fun n F M hI => h n F M hI⟩

theorem cnd_iff {b : Bool} {p q : Prop} : cnd b p q ↔ (b = true → p) ∧ (b = false → q) := by
  cases b <;> simp [cnd]

/-! ### The end of a function -/
theorem Le.refl' (k0 : Nat) (F : List AV) (M : Mem) (hk : k0 ≤ M.length) : Le k0 F M F M id := by
  have hid : ∀ x : Cell, x.map id = x := fun x => Cell.map_on fun _ _ => rfl
  have hv : ∀ x : V1, x.map id = x := fun x => by
    cases x
    · simp [V1.map, hid]
    · simp only [V1.map]; rw [Cells.map_on (σ := id) fun _ _ => rfl]
  have hvs : ∀ xs : List V1, xs.map (V1.map id) = xs := fun xs => by
    induction xs with
    | nil => rfl
    | cons x r ih => rw [List.map_cons, hv, ih]
  have ha : ∀ x : AV, x.map id = x := fun x => by
    cases x <;> simp only [AV.map, hv, hvs]
    rw [Cells.map_on (σ := id) fun _ _ => rfl]
  refine ⟨fun _ _ _ => rfl, hk, rfl, fun s => .inr (ha _), fun b hb => ⟨?_, Blk.map_on fun _ _ => rfl⟩, fun _ _ _ _ h => h, fun _ h => h⟩
  unfold live at hb
  by_cases h : b < M.length
  · exact h
  · rw [show M.at b = .dead by simp [Mem.at, List.getD_eq_getElem?_getD, List.getElem?_eq_none (Nat.le_of_not_lt h)]] at hb
    cases hb

/-- The same, the blocks from k on forgotten. -/
theorem Le.drop' (k0 : Nat) (F : List AV) (M T : Mem) (hk : k0 ≤ M.length) (hF : ∀ x ∈ F, ∀ b ∈ x.ids, b < M.length) (hM : ∀ b, b < M.length → ∀ c ∈ (M.at b).ids, c < M.length) :
    Le k0 F (M ++ T) F M (fun b => if b < M.length then b else b + T.length) := by
  have hv : ∀ x : V1, (∀ b ∈ x.ids, b < M.length) → x.map (fun b => if b < M.length then b else b + T.length) = x := fun x hx => by
    cases x
    · simp only [V1.map]; rw [Cell.map_on fun b hb => by rw [if_pos (hx b hb)]]
    · simp only [V1.map]; rw [Cells.map_on fun b hb => by rw [if_pos (hx b hb)]]
  have hvs : ∀ xs : List V1, (∀ b ∈ v1idsL xs, b < M.length) → xs.map (V1.map (fun b => if b < M.length then b else b + T.length)) = xs := fun xs => by
    induction xs with
    | nil => intro _; rfl
    | cons x r ih =>
      intro hx
      rw [List.map_cons, hv x fun b hb => hx b (List.mem_append_left _ hb), ih fun b hb => hx b (List.mem_append_right _ hb)]
  have ha : ∀ x : AV, (∀ b ∈ x.ids, b < M.length) → x.map (fun b => if b < M.length then b else b + T.length) = x := fun x hx => by
    cases x
    case one x => simp only [AV.map]; rw [hv x hx]
    case tup xs => simp only [AV.map]; rw [hvs xs hx]
    case fn f p q =>
      simp only [AV.map]
      rw [hvs p fun b hb => hx b (List.mem_append_left _ hb), hvs q fun b hb => hx b (List.mem_append_right _ hb)]
    case rop cs => simp only [AV.map]; rw [Cells.map_on fun b hb => by rw [if_pos (hx b hb)]]
    case undef => rfl
    case junk => rfl
  have hlt : ∀ b, live M b = true → b < M.length := fun b hb => by
    unfold live at hb
    by_cases h : b < M.length
    · exact h
    · rw [show M.at b = .dead by simp [Mem.at, List.getD_eq_getElem?_getD, List.getElem?_eq_none (Nat.le_of_not_lt h)]] at hb
      cases hb
  refine ⟨fun b hb _ => if_pos (Nat.lt_of_lt_of_le hb hk), hk, rfl, fun s => ?_, fun b hb => ?_, fun b b' hb hb' h => ?_, fun b hb => ?_⟩
  · rw [List.getD_eq_getElem?_getD]
    cases hs : F[s]? with
    | none => exact .inl rfl
    | some x => exact .inr (ha x (hF x (List.mem_of_getElem? hs)))
  · have hl := hlt b hb
    simp only [if_pos hl]
    refine ⟨by simp; omega, ?_⟩
    rw [Blk.map_on fun c hc => by rw [if_pos (hM b hl c hc)]]
    simp [Mem.at, List.getD_eq_getElem?_getD, List.getElem?_append_left hl]
  · simp only [if_pos (hlt b hb), if_pos (hlt b' hb')] at h
    exact h
  · show _ ≤ (if b < M.length then b else b + T.length)
    rw [if_neg (by omega)]
    simp; omega

/-- A plain answer, and nothing written of what was handed in. -/
theorem ends_plain {r : SR} {c : PC} {args M T : Mem} (hv : r.val = .one (.c (.pl c))) (hu : r.upd = none) (hn : r.new = []) (hM : M = args ++ T) (hc : ∀ b, b < args.length → ∀ c ∈ (args.at b).ids, c < args.length) : Ends args.length r args (.one (.c (.pl c))) M := by
  subst hM
  exact ⟨[], _, rfl, _, _, _, Le.drop' args.length _ args T (Nat.le_refl _) (fun x hx b hb => by simp at hx; subst hx; simp [AV.ids, V1.ids, Cell.ids] at hb) hc, by rw [hv], by rw [hu, hn]; simp⟩
/-- The same for functions that were handed no memory. -/
theorem ends_pl {p : Option Prop} {c d : PC} {M : Mem} (h : c = d) : Ends 0 ⟨p, .one (.c (.pl d)), none, []⟩ [] (.one (.c (.pl c))) M := by
  subst h
  exact ends_plain (args := []) (T := M) rfl rfl rfl rfl (fun b hb => by simp at hb)
theorem ends_agg {p : Option Prop} {cs ds : List PC} {M : Mem} (h : cs = ds) : Ends 0 ⟨p, .one (.agg (ds.map .pl)), none, []⟩ [] (.one (.agg (cs.map .pl))) M := by
  subst h
  have hids : ∀ ps : List PC, cidsL (ps.map .pl) = [] := fun ps => by
    induction ps with
    | nil => rfl
    | cons x r ih => exact ih
  exact ⟨[], _, rfl, _, _, _, Le.drop' 0 _ [] M (Nat.le_refl _) (fun x hx b hb => by simp at hx; subst hx; simp [AV.ids, V1.ids, hids] at hb) (fun b hb => by simp at hb), rfl, by simp⟩

/-! ### Tables of summaries -/
def gam : List (FuncId × Summ) → Gam
  | [], _ => none
  | (g, S) :: r, f => bif Nat.beq g f then some S else gam r f
theorem gam_nil {P : Program} {eid : RTy → TypeId} : GamOk P eid (gam []) := fun f S h => by cases h
theorem gam_cons {P : Program} {eid : RTy → TypeId} {g : FuncId} {S : Summ} {l : List (FuncId × Summ)} (h : Holds P eid g S) (k : GamOk P eid (gam l)) : GamOk P eid (gam ((g, S) :: l)) := by
  intro f S' hS
  unfold gam at hS
  cases hb : Nat.beq g f with
  | true =>
    rw [hb] at hS
    cases hS
    have := Nat.eq_of_beq_eq_true hb
    subst this; exact h
  | false =>
    rw [hb] at hS
    exact k f S' hS
abbrev vi (n : Int) : AV := .one (.c (.pl (.int .i64 n)))
abbrev vb (b : Bool) : AV := .one (.c (.pl (.bool b)))
/-- A plain answer that asks for nothing. -/
abbrev ans (v : AV) : Option (BT SR) := some (.leaf ⟨none, v, none, []⟩)
abbrev ansP (p : Prop) (v : AV) : Option (BT SR) := some (.leaf ⟨some p, v, none, []⟩)
end Lw
