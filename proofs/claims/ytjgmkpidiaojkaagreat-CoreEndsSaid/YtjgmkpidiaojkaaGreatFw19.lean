/- The abstract machine (drawn regions, in any order). -/
import Derived.Test.YtjgmkpidiaojkaaGreatFw18
import Derived.Orders
/- Regions that draw their order, together. -/
set_option linter.unusedVariables false
set_option linter.unusedSimpArgs false
namespace Lw
open Go

theorem On.trans {E E' E'' : Env} {b : Nat} (h : On E E' b) (k : On E' E'' b) : On E E'' b := by
  rcases h with h1 | h1 | h1
  · exact .inl h1
  · rcases k with k1 | k1 | k1
    · rw [h1] at k1; cases k1
    · exact .inr (.inl k1)
    · exact .inr (.inl (k1.trans h1))
  · rcases k with k1 | k1 | k1
    · exact .inl (h1 ▸ k1)
    · exact .inr (.inl k1)
    · exact .inr (.inr (k1.trans h1))

theorem putF_get {F : List AV} {d : Option Tmp} {x : AV} {s : Nat} (h : d ≠ some s) : (putF F d x)[s]? = F[s]? := by
  cases d with
  | none => rfl
  | some d => exact List.getElem?_set_ne (fun e => h (by rw [e]))
theorem putF_self {F : List AV} {x : AV} {s : Nat} (h : s < F.length) : (putF F (some s) x)[s]? = some x := by simp [putF, h]
theorem putF_length (F : List AV) (d : Option Tmp) (x : AV) : (putF F d x).length = F.length := by cases d <;> simp [putF]
theorem keptB_spec {x y : Blk} (h : keptB x y = true) : x.shape = y.shape ∧ x.shape ≠ none := by
  cases x <;> cases y <;> simp [keptB, Blk.shape] at h ⊢
  exact h

/-! ### 1. What a step of the trace does -/
structure StepF (F : List AV) (M : Mem) (F' : List AV) (M' : Mem) (t : Tr) : Prop where
  flen : F'.length = F.length
  mlen : M.length ≤ M'.length
  slot : ∀ s, memN s (optL t.dst) = false → F'[s]? = F[s]?
  blk : ∀ b, memN b t.wrM = false → M'[b]? = M[b]?
  shape : ∀ b, memN b t.kl = false → M'[b]?.map Blk.shape = M[b]?.map Blk.shape
  kw : ∀ b, memN b t.kl = true → memN b t.wrM = true

theorem memN_false {b : Nat} {l : List Nat} : memN b l = false ↔ b ∉ l := by
  rw [← memN_iff]; cases memN b l <;> simp

/-- What the checks of an executed operation say. -/
structure GoF (Γ : Gam) (τ : Tys) (all : List Oper) (o : Oper) (F : List AV) (M : Mem) (bt : BT DR) (vis mn wr : List Nat) (t0 : BT OR) : Prop where
  run : aopT Γ τ o (restrictF (usedT o.op.operands.toList) 0 F) (viewM vis mn 0 M) = some t0
  pre : bt.ev.pre = t0.ev.pre
  val : bt.ev.val = t0.ev.val
  mem : bt.ev.mem = mergeM wr 0 M t0.ev.mem
  dst : bt.ev.tr.dst = o.dst
  rdS : bt.ev.tr.rdS = gslot all o ++ usedT o.op.operands.toList
  rdM : bt.ev.tr.rdM = vis
  wrM : bt.ev.tr.wrM = wr ++ range' M.length (t0.ev.mem.length - M.length)
  mn_ : bt.ev.tr.mn = mn
  kl : bt.ev.tr.kl = filterN (fun b => !(keptB (M.at b) (t0.ev.mem.at b))) wr ++ range' M.length (t0.ev.mem.length - M.length)
  len : M.length ≤ t0.ev.mem.length
  mlt : ∀ b ∈ mn, b < M.length
  wmn : ∀ b ∈ wr, b ∈ mn
  liv : ∀ c ∈ mn, c ∉ wr → live t0.ev.mem c = live (viewM vis mn 0 M) c
  vids : ∀ c ∈ t0.ev.val.ids, M.length ≤ c ∨ c ∈ mn
  mids : ∀ b ∈ wr ++ range' M.length (t0.ev.mem.length - M.length), ∀ c ∈ (t0.ev.mem.at b).ids, M.length ≤ c ∨ c ∈ mn
  keep : ∀ b, b < M.length → b ∉ wr → b ∈ vis → t0.ev.mem[b]? = (viewM vis mn 0 M)[b]?
  vmn : ∀ b ∈ vis, b ∈ mn
  cmn : ∀ b ∈ vis, ∀ c ∈ (M.at b).ids, c ∈ mn
  umn : ∀ s ∈ usedT o.op.operands.toList, ∀ c ∈ (F.getD s .undef).ids, c ∈ mn

theorem goF_of {Γ : Gam} {τ : Tys} {all : List Oper} {o : Oper} {F : List AV} {M : Mem} {bt : BT DR} (h : aopR Γ τ all o F M = some bt) (hok : bt.ev.ok = true) : ∃ vis mn wr t0, GoF Γ τ all o F M bt vis mn wr t0 := by
  unfold aopR at h
  split at h
  · rename_i vis mn hin
    simp only at h
    split at h
    · rename_i t0 ht0
      cases h
      rw [BT.ev_map] at hok
      simp only [drRes, Bool.and_eq_true] at hok
      obtain ⟨h1, h2, h3, h4, h5, h6⟩ := hok
      have hvis : vis = (foot o F M).1 ++ (foot o F M).2 ∧ mn = avidsL ((usedT o.op.operands.toList).map fun s => F.getD s .undef) ++ ((((foot o F M).1 ++ (foot o F M).2)) ++ flatN (fun b => (M.at b).ids) ((foot o F M).1 ++ (foot o F M).2)) := by
        unfold drIn at hin
        cases hf : foot o F M with
        | mk rd wr0 =>
          rw [hf] at hin
          simp only [Prod.mk.injEq] at hin
          exact ⟨hin.1.symm, hin.2.symm⟩
      refine ⟨vis, mn, bif writes Γ o (restrictF (usedT o.op.operands.toList) 0 F) (viewM vis mn 0 M) then vis else (foot o (restrictF (usedT o.op.operands.toList) 0 F) (viewM vis mn 0 M)).2, t0,
        ht0, by rw [BT.ev_map]; rfl, by rw [BT.ev_map]; rfl, by rw [BT.ev_map]; rfl, by rw [BT.ev_map]; rfl, by rw [BT.ev_map]; rfl, by rw [BT.ev_map]; rfl, by rw [BT.ev_map]; rfl, by rw [BT.ev_map]; rfl, by rw [BT.ev_map]; rfl,
        Nat.le_of_ble_eq_true h1, ?_, ?_, ?_, ?_, ?_, ?_, ?_, ?_, ?_⟩
      · intro b hb
        have := allN_iff.1 h2 b hb
        simpa [Nat.blt_eq] using this
      · exact allIn_iff.1 h3
      · intro c hc hn
        have := allN_iff.1 h4 c hc
        rw [Bool.or_eq_true, memN_iff] at this
        rcases this with h | h
        · exact absurd h hn
        · simpa using h
      · intro c hc
        have := allN_iff.1 h5 c hc
        rw [Bool.or_eq_true, memN_iff] at this
        exact this.imp Nat.le_of_ble_eq_true id
      · intro b hb c hc
        have := allN_iff.1 h6 c (mem_flatN.2 ⟨b, hb, hc⟩)
        rw [Bool.or_eq_true, memN_iff] at this
        exact this.imp Nat.le_of_ble_eq_true id
      · intro b hb hn hv
        cases hw : writes Γ o (restrictF (usedT o.op.operands.toList) 0 F) (viewM vis mn 0 M) with
        | true => rw [hw] at hn; exact absurd hv hn
        | false =>
          rw [hw] at hn
          exact aopT_foot ht0 hw (by rw [viewM_length]; exact hb) hn
      · intro b hb
        rw [hvis.2]
        rw [hvis.1] at hb
        exact List.mem_append_right _ (List.mem_append_left _ hb)
      · intro b hb c hc
        rw [hvis.2]
        rw [hvis.1] at hb
        exact List.mem_append_right _ (List.mem_append_right _ (mem_flatN.2 ⟨b, hb, hc⟩))
      · intro s hs c hc
        rw [hvis.2]
        exact List.mem_append_left _ (mem_avidsL.2 ⟨_, List.mem_map.2 ⟨s, hs, rfl⟩, hc⟩)
    · cases h

theorem GoF.step {Γ : Gam} {τ : Tys} {all : List Oper} {o : Oper} {F : List AV} {M : Mem} {bt : BT DR} {vis mn wr : List Nat} {t0 : BT OR} (h : GoF Γ τ all o F M bt vis mn wr t0) : StepF F M (putF F o.dst bt.ev.val) bt.ev.mem bt.ev.tr := by
  have hblk : ∀ b, b ∉ wr → ¬ (M.length ≤ b ∧ b < t0.ev.mem.length) → bt.ev.mem[b]? = M[b]? := by
    intro b h1 h2
    rw [h.mem, mergeM_get h.len]
    simp only [Nat.zero_add, memN_false.2 h1]
    by_cases hb : b < M.length
    · simp [hb]
    · rw [if_neg hb, List.getElem?_eq_none (by simp only [not_and] at h2; have := h2 (by omega); omega), List.getElem?_eq_none (by omega)]
  refine ⟨putF_length F o.dst bt.ev.val, by rw [h.mem, mergeM_length h.len]; exact h.len, fun s hs => ?_, fun b hb => ?_, fun b hb => ?_, fun b hb => ?_⟩
  · rw [h.dst] at hs
    refine putF_get fun e => ?_
    rw [e] at hs
    simp [optL, memN] at hs
  · rw [h.wrM, memN_false] at hb
    simp only [List.mem_append, mem_range', not_or] at hb
    exact hblk b hb.1 (fun hh => hb.2 ⟨hh.1, by have := h.len; omega⟩)
  · rw [h.kl, memN_false] at hb
    simp only [List.mem_append, mem_range', not_or, mem_filterN, not_and] at hb
    by_cases hw : b ∈ wr
    · have hk := hb.1 hw
      have hk : keptB (M.at b) (t0.ev.mem.at b) = true := by simpa using hk
      obtain ⟨hs, hne⟩ := keptB_spec hk
      have hbl := h.mlt b (h.wmn b hw)
      rw [h.mem, mergeM_get h.len, if_pos hbl, Nat.zero_add, if_pos (memN_iff.2 hw)]
      rw [at_get hbl, at_get (Nat.lt_of_lt_of_le hbl h.len)]
      simp [hs]
    · rw [hblk b hw (fun hh => hb.2 hh.1 (by have := h.len; omega))]
  · rw [h.kl, memN_iff] at hb
    rw [h.wrM, memN_iff]
    rcases List.mem_append.1 hb with hb | hb
    · exact List.mem_append_left _ (mem_filterN.1 hb).1
    · exact List.mem_append_right _ hb

theorem StepR.stepF {Γ : Gam} {τ : Tys} {all : List Oper} {o : Oper} {F F' : List AV} {M M' : Mem} {t : Tr} (h : StepR Γ τ all o F M F' M' t) : StepF F M F' M' t := by
  rcases h with ⟨_, bt, hbt, hok, _, rfl, rfl, rfl⟩ | ⟨_, rfl, rfl, rfl⟩
  · obtain ⟨vis, mn, wr, t0, hg⟩ := goF_of hbt hok
    exact hg.step
  · refine ⟨putF_length _ _ _, Nat.le_refl _, fun s hs => putF_get fun e => ?_, fun _ _ => rfl, fun _ _ => rfl, fun b hb => by simp [memN] at hb⟩
    rw [e] at hs
    simp [optL, memN] at hs

/-! ### 2. The state once some have come up -/
structure Trace (Γ : Gam) (τ : Tys) (all : List Oper) (n : Nat) (Fs : Nat → List AV) (Ms : Nat → Mem) (ts : Nat → Tr) : Prop where
  len : n = all.length
  step : ∀ (i : Nat) (o : Oper), all[i]? = some o → StepR Γ τ all o (Fs i) (Ms i) (Fs (i + 1)) (Ms (i + 1)) (ts i)
  apart : ∀ i j, i < j → j < n → i ∈ (ancs [] all).getD j [] ∨ clash (ts i) (ts j) = false

def wrS (ts : Nat → Tr) (s : Nat) (i : Nat) : Bool := memN s (optL (ts i).dst)
def wrB (ts : Nat → Tr) (b : Nat) (i : Nat) : Bool := memN b (ts i).wrM
def klB (ts : Nat → Tr) (b : Nat) (i : Nat) : Bool := memN b (ts i).kl
def curF (Fs : Nat → List AV) (ts : Nat → Tr) (n : Nat) (D : Nat → Bool) (s : Nat) : AV := (Fs (ft (wrS ts s) D 0 n)).getD s .undef
def curM (Ms : Nat → Mem) (ts : Nat → Tr) (n : Nat) (D : Nat → Bool) (b : Nat) : Option Blk := (Ms (ft (wrB ts b) D 0 n))[b]?

/-- What has come up is closed under what must go ahead. -/
def Closed (all : List Oper) (D : Nat → Bool) : Prop := ∀ (k : Nat) (o : Oper), all[k]? = some o → D k = true → ∀ e ∈ o.after.toList, Region.binds .any e = true → D e.on = true

section
variable {Γ : Gam} {τ : Tys} {all : List Oper} {n : Nat} {Fs : Nat → List AV} {Ms : Nat → Mem} {ts : Nat → Tr} {D : Nat → Bool}

theorem Trace.clo (hT : Trace Γ τ all n Fs Ms ts) (hD : Closed all D) {k : Nat} {o : Oper} (ho : all[k]? = some o) (hp : ∀ e ∈ o.after.toList, Region.binds .any e = true → D e.on = true) : ∀ i ∈ (ancs [] all).getD k [], D i = true := by
  intro i hi
  rw [List.getD_eq_getElem?_getD] at hi
  cases hq : (ancs [] all)[k]? with
  | none => rw [hq] at hi; simp at hi
  | some l =>
    rw [hq] at hi
    exact ancs_clo hD all [] (by simp) (fun k l h => by simp at h) k l hq o ho hp i (by simpa using hi)

theorem Trace.stepF (hT : Trace Γ τ all n Fs Ms ts) {i : Nat} (hi : i < n) : StepF (Fs i) (Ms i) (Fs (i + 1)) (Ms (i + 1)) (ts i) :=
  have hl : i < all.length := by rw [← hT.len]; exact hi
  (hT.step i (all[i]'hl) (List.getElem?_eq_getElem hl)).stepF

theorem Trace.flen (hT : Trace Γ τ all n Fs Ms ts) : ∀ i, i ≤ n → (Fs i).length = (Fs 0).length
  | 0, _ => rfl
  | i + 1, h => by rw [(hT.stepF (i := i) (by omega)).flen]; exact hT.flen i (by omega)
theorem Trace.mlen (hT : Trace Γ τ all n Fs Ms ts) : ∀ i, i ≤ n → (Ms 0).length ≤ (Ms i).length
  | 0, _ => Nat.le_refl _
  | i + 1, h => Nat.le_trans (hT.mlen i (by omega)) (hT.stepF (i := i) (by omega)).mlen

/-- Of two that clash, the later waits for the earlier. -/
theorem Trace.before (hT : Trace Γ τ all n Fs Ms ts) (hD : Closed all D) {i j : Nat} (hij : i < j) (hj : j < n) (hDj : D j = true) (hc : clash (ts i) (ts j) = true) : D i = true := by
  have ho := List.getElem?_eq_getElem (l := all) (i := j) (by rw [← hT.len]; exact hj)
  rcases hT.apart i j hij hj with h | h
  · exact hT.clo hD ho (hD j _ ho hDj) i h
  · rw [hc] at h; cases h

structure Ready (all : List Oper) (D : Nat → Bool) (j : Nat) (o : Oper) : Prop where
  get : all[j]? = some o
  un : D j = false
  pre : ∀ e ∈ o.after.toList, Region.binds .any e = true → D e.on = true

theorem Trace.cf (hT : Trace Γ τ all n Fs Ms ts) (hD : Closed all D) {j : Nat} {o : Oper} (hR : Ready all D j o) (wr : Nat → Bool) (h1 : ∀ i, wr i = true → clash (ts i) (ts j) = true) (h2 : ∀ i, wr i = true → clash (ts j) (ts i) = true) :
    (∀ i, i < n → wr i = true → i < j → D i = true) ∧ (∀ i, i < n → wr i = true → j < i → D i = false) := by
  have hjn : j < n := by rw [hT.len]; exact (List.getElem?_eq_some_iff.1 hR.get).1
  refine ⟨fun i _ hw hlt => ?_, fun i hi hw hlt => ?_⟩
  · rcases hT.apart i j hlt hjn with h | h
    · exact hT.clo hD hR.get hR.pre i h
    · rw [h1 i hw] at h; cases h
  · cases hd : D i with
    | false => rfl
    | true =>
      have := hT.before hD hlt hi hd (h2 i hw)
      rw [hR.un] at this; cases this

theorem clash1 {x y : Tr} (h : meets (optL x.dst) (y.rdS ++ optL y.dst) = true) : clash x y = true := by simp [clash, h]
theorem clash2 {x y : Tr} (h : meets (optL y.dst) x.rdS = true) : clash x y = true := by simp [clash, h]
theorem clash3 {x y : Tr} (h : meets x.wrM (y.rdM ++ y.wrM) = true) : clash x y = true := by simp [clash, h]
theorem clash4 {x y : Tr} (h : meets y.wrM x.rdM = true) : clash x y = true := by simp [clash, h]
theorem clash5 {x y : Tr} (h : meets x.kl y.mn = true) : clash x y = true := by simp [clash, h]
theorem clash6 {x y : Tr} (h : meets y.kl x.mn = true) : clash x y = true := by simp [clash, h]

theorem Trace.slotFr (hT : Trace Γ τ all n Fs Ms ts) (s : Nat) : ∀ i, i < n → wrS ts s i = false → (Fs (i + 1)).getD s .undef = (Fs i).getD s .undef := by
  intro i hi hw
  rw [List.getD_eq_getElem?_getD, List.getD_eq_getElem?_getD, (hT.stepF hi).slot s hw]
theorem Trace.blkFr (hT : Trace Γ τ all n Fs Ms ts) (b : Nat) : ∀ i, i < n → wrB ts b i = false → (Ms (i + 1))[b]? = (Ms i)[b]? := fun i hi hw => (hT.stepF hi).blk b hw

theorem Trace.readS (hT : Trace Γ τ all n Fs Ms ts) (hD : Closed all D) {j : Nat} {o : Oper} (hR : Ready all D j o) {s : Nat} (hs : s ∈ (ts j).rdS) : curF Fs ts n D s = (Fs j).getD s .undef := by
  have hjn : j < n := by rw [hT.len]; exact (List.getElem?_eq_some_iff.1 hR.get).1
  obtain ⟨h1, h2⟩ := hT.cf hD hR (wrS ts s) (fun i hw => clash1 (meets_iff.2 ⟨s, List.mem_append_left _ hs, memN_iff.1 hw⟩)) (fun i hw => clash2 (meets_iff.2 ⟨s, hs, memN_iff.1 hw⟩))
  exact cur_read (val := fun i => (Fs i).getD s .undef) (hT.slotFr s) hjn hR.un h1 h2
theorem Trace.writeS (hT : Trace Γ τ all n Fs Ms ts) (hD : Closed all D) {j : Nat} {o : Oper} (hR : Ready all D j o) {s : Nat} (hs : s ∈ optL (ts j).dst) {D' : Nat → Bool} (hD' : ∀ i, D' i = true ↔ D i = true ∨ i = j) : curF Fs ts n D' s = (Fs (j + 1)).getD s .undef := by
  have hjn : j < n := by rw [hT.len]; exact (List.getElem?_eq_some_iff.1 hR.get).1
  obtain ⟨h1, h2⟩ := hT.cf hD hR (wrS ts s) (fun i hw => clash1 (meets_iff.2 ⟨s, List.mem_append_right _ hs, memN_iff.1 hw⟩)) (fun i hw => clash1 (meets_iff.2 ⟨s, List.mem_append_right _ (memN_iff.1 hw), hs⟩))
  exact cur_write (val := fun i => (Fs i).getD s .undef) (hT.slotFr s) hjn hR.un h1 h2 hD'
theorem Trace.readB (hT : Trace Γ τ all n Fs Ms ts) (hD : Closed all D) {j : Nat} {o : Oper} (hR : Ready all D j o) {b : Nat} (hs : b ∈ (ts j).rdM) : curM Ms ts n D b = (Ms j)[b]? := by
  have hjn : j < n := by rw [hT.len]; exact (List.getElem?_eq_some_iff.1 hR.get).1
  obtain ⟨h1, h2⟩ := hT.cf hD hR (wrB ts b) (fun i hw => clash3 (meets_iff.2 ⟨b, List.mem_append_left _ hs, memN_iff.1 hw⟩)) (fun i hw => clash4 (meets_iff.2 ⟨b, hs, memN_iff.1 hw⟩))
  exact cur_read (val := fun i => (Ms i)[b]?) (hT.blkFr b) hjn hR.un h1 h2
theorem Trace.cfW (hT : Trace Γ τ all n Fs Ms ts) (hD : Closed all D) {j : Nat} {o : Oper} (hR : Ready all D j o) {b : Nat} (hs : b ∈ (ts j).wrM) :
    (∀ i, i < n → wrB ts b i = true → i < j → D i = true) ∧ (∀ i, i < n → wrB ts b i = true → j < i → D i = false) :=
  hT.cf hD hR (wrB ts b) (fun i hw => clash3 (meets_iff.2 ⟨b, List.mem_append_right _ hs, memN_iff.1 hw⟩)) (fun i hw => clash3 (meets_iff.2 ⟨b, List.mem_append_right _ (memN_iff.1 hw), hs⟩))
theorem Trace.wasB (hT : Trace Γ τ all n Fs Ms ts) (hD : Closed all D) {j : Nat} {o : Oper} (hR : Ready all D j o) {b : Nat} (hs : b ∈ (ts j).wrM) : curM Ms ts n D b = (Ms j)[b]? := by
  have hjn : j < n := by rw [hT.len]; exact (List.getElem?_eq_some_iff.1 hR.get).1
  obtain ⟨h1, h2⟩ := hT.cfW hD hR hs
  exact cur_read (val := fun i => (Ms i)[b]?) (hT.blkFr b) hjn hR.un h1 h2
theorem Trace.writeB (hT : Trace Γ τ all n Fs Ms ts) (hD : Closed all D) {j : Nat} {o : Oper} (hR : Ready all D j o) {b : Nat} (hs : b ∈ (ts j).wrM) {D' : Nat → Bool} (hD' : ∀ i, D' i = true ↔ D i = true ∨ i = j) : curM Ms ts n D' b = (Ms (j + 1))[b]? := by
  have hjn : j < n := by rw [hT.len]; exact (List.getElem?_eq_some_iff.1 hR.get).1
  obtain ⟨h1, h2⟩ := hT.cfW hD hR hs
  exact cur_write (val := fun i => (Ms i)[b]?) (hT.blkFr b) hjn hR.un h1 h2 hD'

theorem Trace.shapeB (hT : Trace Γ τ all n Fs Ms ts) (hD : Closed all D) {j : Nat} {o : Oper} (hR : Ready all D j o) {b : Nat} (hs : b ∈ (ts j).mn) : (curM Ms ts n D b).map Blk.shape = ((Ms j)[b]?).map Blk.shape := by
  have hjn : j < n := by rw [hT.len]; exact (List.getElem?_eq_some_iff.1 hR.get).1
  obtain ⟨h1, h2⟩ := hT.cf hD hR (klB ts b) (fun i hw => clash5 (meets_iff.2 ⟨b, hs, memN_iff.1 hw⟩)) (fun i hw => clash6 (meets_iff.2 ⟨b, hs, memN_iff.1 hw⟩))
  have hfr : ∀ i, i < n → klB ts b i = false → ((Ms (i + 1))[b]?).map Blk.shape = ((Ms i)[b]?).map Blk.shape := fun i hi hw => (hT.stepF hi).shape b hw
  rw [← cur_read (val := fun i => ((Ms i)[b]?).map Blk.shape) hfr hjn hR.un h1 h2]
  unfold curM
  have sw := ft_spec (wrB ts b) D n
  have sk := ft_spec (klB ts b) D n
  generalize ft (wrB ts b) D 0 n = tw at sw
  generalize ft (klB ts b) D 0 n = tk at sk
  have hle : tw ≤ tk := by
    rcases Nat.lt_or_ge tk tw with hlt | hge
    · have h3 := sk.at_ (by have := sw.le; omega)
      have := sw.bef tk hlt ((hT.stepF (by have := sw.le; omega)).kw b h3.1)
      rw [h3.2] at this; cases this
    · exact hge
  refine (const_on' (val := fun i => ((Ms i)[b]?).map Blk.shape) hfr hle sk.le fun i hi1 hi2 => ?_).symm
  cases hk : klB ts b i with
  | false => rfl
  | true =>
    have hin : i < n := by have := sk.le; omega
    have hDi := sk.bef i hi2 hk
    have hw : wrB ts b i = true := (hT.stepF hin).kw b hk
    have h3 := sw.at_ (by omega)
    by_cases he : i = tw
    · subst he; rw [h3.2] at hDi; cases hDi
    · have := hT.before hD (i := tw) (j := i) (by omega) hin hDi (clash3 (meets_iff.2 ⟨b, List.mem_append_right _ (memN_iff.1 hw), memN_iff.1 h3.1⟩))
      rw [h3.2] at this; cases this
end

/-! ### 3. One that comes up -/
structure Inv (X : Cx) (w1 : World) (ρ1 : Nat → Value) (n : Nat) (Fs : Nat → List AV) (Ms : Nat → Mem) (ts : Nat → Tr) (D : Nat → Bool) (a : Act) (w : World) (ρ : Nat → Value) : Prop where
  size : a.tmps.size = (Fs 0).length
  rel : ∀ (s : Nat) (v : Value), a.tmps[s]? = some v → RelA X (envF ρ (curM Ms ts n D)) (curF Fs ts n D s) v
  rep : RepE X (envF ρ (curM Ms ts n D)) ρ (curM Ms ts n D) w
  ext : ExtF w1 ρ1 (tab (Ms 0)) w ρ (curM Ms ts n D)
  keep : ∀ b, On (envOf ρ1 (Ms 0)) (envF ρ (curM Ms ts n D)) b
  df : a.defers = []

theorem put_size (a : Act) (d : Option Tmp) (v : Value) : (a.put d v).tmps.size = a.tmps.size := by cases d <;> simp [Act.put]
theorem put_get {a : Act} {d : Option Tmp} {v u : Value} {s : Nat} (h : (a.put d v).tmps[s]? = some u) : (d = some s ∧ u = v ∧ s < a.tmps.size) ∨ (d ≠ some s ∧ a.tmps[s]? = some u) := by
  cases d with
  | none => exact .inr ⟨by simp, h⟩
  | some d =>
    have h : (a.tmps.setIfInBounds d v)[s]? = some u := h
    by_cases he : d = s
    · subst he
      have hl : d < a.tmps.size := by
        have := (Array.getElem?_eq_some_iff.1 h).1
        simpa using this
      rw [Array.getElem?_setIfInBounds_self_of_lt hl] at h
      exact .inl ⟨rfl, (Option.some.inj h).symm, hl⟩
    · rw [Array.getElem?_setIfInBounds_ne he] at h
      exact .inr ⟨by simp [he], h⟩

/-- The slots behind an operation. -/
theorem Inv.slots {X : Cx} {w1 : World} {ρ1 : Nat → Value} {Γ : Gam} {τ : Tys} {all : List Oper} {n : Nat} {Fs : Nat → List AV} {Ms : Nat → Mem} {ts : Nat → Tr} {D D' : Nat → Bool} {a : Act} {w : World} {ρ ρ' : Nat → Value} (hT : Trace Γ τ all n Fs Ms ts) (hD : Closed all D) (hI : Inv X w1 ρ1 n Fs Ms ts D a w ρ) {j : Nat} {o : Oper} (hR : Ready all D j o)
    (hD' : ∀ i, D' i = true ↔ D i = true ∨ i = j) (hdst : (ts j).dst = o.dst) {x : AV} {v : Value} (hF : Fs (j + 1) = putF (Fs j) o.dst x) (hv : RelA X (envF ρ' (curM Ms ts n D')) x v) (hold : ∀ b, On (envF ρ (curM Ms ts n D)) (envF ρ' (curM Ms ts n D')) b) :
    ∀ (s : Nat) (u : Value), (a.put o.dst v).tmps[s]? = some u → RelA X (envF ρ' (curM Ms ts n D')) (curF Fs ts n D' s) u := by
  have hjn : j < n := by rw [hT.len]; exact (List.getElem?_eq_some_iff.1 hR.get).1
  intro s u hu
  rcases put_get hu with ⟨he, rfl, hs⟩ | ⟨hne, hu⟩
  · rw [hT.writeS hD hR (s := s) (by rw [hdst, he]; simp [optL]) hD', hF, he, List.getD_eq_getElem?_getD, putF_self (by rw [hT.flen j (Nat.le_of_lt hjn), ← hI.size]; exact hs)]
    exact hv
  · have : curF Fs ts n D' s = curF Fs ts n D s := by
      unfold curF
      rw [ft_other (j := j) (by
        show memN s (optL (ts j).dst) = false
        rw [memN_false, hdst]
        intro hm
        apply hne
        cases hd : o.dst with
        | none => rw [hd] at hm; simp [optL] at hm
        | some d => rw [hd] at hm; simp [optL] at hm; rw [hm]) hD']
    rw [this]
    exact (hI.rel s u hu).on fun b _ => hold b

theorem guard_run {X : Cx} {w1 : World} {ρ1 : Nat → Value} {Γ : Gam} {τ : Tys} {ops : Array Oper} {n : Nat} {Fs : Nat → List AV} {Ms : Nat → Mem} {ts : Nat → Tr} {D : Nat → Bool} {a : Act} {w : World} {ρ : Nat → Value} (hT : Trace Γ τ ops.toList n Fs Ms ts) (hD : Closed ops.toList D) (hI : Inv X w1 ρ1 n Fs Ms ts D a w ρ) {j : Nat} {o : Oper} (hR : Ready ops.toList D j o)
    (hrd : ∀ s ∈ gslot ops.toList o, s ∈ (ts j).rdS) {b : Bool} (hg : GW ops.toList o (Fs j) b) : Region.wanted o (yielded ops a.tmps) = b := by
  have hjn : j < n := by rw [hT.len]; exact (List.getElem?_eq_some_iff.1 hR.get).1
  rcases hg with ⟨hg, rfl⟩ | ⟨i, want, g, hg, hgo, rfl⟩
  · simp [Region.wanted, hg]
  · have hy : yielded ops a.tmps i = g := by
      unfold guardOf at hgo
      unfold yielded
      split at hgo
      · rename_i p hp
        have hp' : ops[i]? = some p := by rw [← Array.getElem?_toList]; exact hp
        rw [hp', Option.bind_some]
        split at hgo
        · rename_i d hd
          rw [hd, Option.bind_some]
          have hmem : d ∈ gslot ops.toList o := by unfold gslot; rw [hg]; simp only [hp, hd]; exact List.mem_singleton.2 rfl
          have hcur := hT.readS hD hR (hrd d hmem)
          have hval : ∀ x, (Fs j)[d]? = some x → ∃ v, a.tmps[d]? = some v ∧ RelA X (envF ρ (curM Ms ts n D)) x v := by
            intro x hx
            have hlt : d < a.tmps.size := by rw [hI.size, ← hT.flen j (Nat.le_of_lt hjn)]; exact (List.getElem?_eq_some_iff.1 hx).1
            have hv : a.tmps[d]? = some a.tmps[d] := Array.getElem?_eq_getElem hlt
            refine ⟨_, hv, ?_⟩
            have := hI.rel d _ hv
            rw [hcur, List.getD_eq_getElem?_getD, hx] at this
            exact this
          split at hgo
          · rename_i b hb
            cases hgo
            obtain ⟨v, hv, hr⟩ := hval _ hb
            rw [hv]
            have : v = .bool b := hr
            subst this; rfl
          · rename_i hb
            cases hgo
            obtain ⟨v, hv, hr⟩ := hval _ hb
            rw [hv]
            have : v = undef := hr
            subst this; rfl
          · cases hgo
        · cases hgo
      · cases hgo
    simp [Region.wanted, hg, hy]

theorem step_sound {P : Program} {W0 : World} {eid : RTy → TypeId} {Γ : Gam} {τ : Tys} (hTy : Agree ⟨P, W0, eid⟩ τ) (hΓ : GamOk P eid Γ) {w1 : World} {ρ1 : Nat → Value} {ops : Array Oper} {n : Nat} {Fs : Nat → List AV} {Ms : Nat → Mem} {ts : Nat → Tr} {D D' : Nat → Bool} {a : Act} {w : World} {ρ : Nat → Value}
    (hT : Trace Γ τ ops.toList n Fs Ms ts) (hD : Closed ops.toList D) (hI : Inv ⟨P, W0, eid⟩ w1 ρ1 n Fs Ms ts D a w ρ) {j : Nat} {o : Oper} (hR : Ready ops.toList D j o) (hD' : ∀ i, D' i = true ↔ D i = true ∨ i = j)
    {K : Act → World → Prop} {Q : Exit → Act → World → Prop} (hK : ∀ a w ρ, Inv ⟨P, W0, eid⟩ w1 ρ1 n Fs Ms ts D' a w ρ → K a w) : wpOp P ops Q j K a w := by
  have hjn : j < n := by rw [hT.len]; exact (List.getElem?_eq_some_iff.1 hR.get).1
  have hget : ops[j]? = some o := by rw [← Array.getElem?_toList]; exact hR.get
  unfold wpOp
  rw [hget]
  simp only
  rcases hT.step j o hR.get with ⟨hg, bt, hbt, hok, hpre, hF, hM, ht⟩ | ⟨hg, hF, hM, ht⟩
  · obtain ⟨vis, mn, wr, t0, hG⟩ := goF_of hbt hok
    rw [if_pos (guard_run hT hD hI hR (fun s hs => by rw [ht, hG.rdS]; exact List.mem_append_left _ hs) hg)]
    refine .inl ?_
    have hwrM : (ts j).wrM = wr ++ range' (Ms j).length (t0.ev.mem.length - (Ms j).length) := by rw [ht]; exact hG.wrM
    have hV : View (curM Ms ts n D) (Ms j) vis mn := by
      refine ⟨hG.mlt, hG.vmn, hG.cmn, fun b hb => hT.readB hD hR (by rw [ht, hG.rdM]; exact hb), fun b hb => ?_⟩
      have hs := hT.shapeB hD hR (b := b) (by rw [ht, hG.mn_]; exact hb)
      rw [at_get (hG.mlt b hb)] at hs
      cases hx : curM Ms ts n D b with
      | none => rw [hx] at hs; cases hs
      | some x =>
        rw [hx] at hs
        exact ⟨x, _, rfl, at_get (hG.mlt b hb), by simpa using hs⟩
    have hFloc : RelF ⟨P, W0, eid⟩ (envOf ρ (viewM vis mn 0 (Ms j))) (restrictF (usedT o.op.operands.toList) 0 (Fs j)) a.tmps.toList := by
      refine restrictF_rel (by rw [hT.flen j (Nat.le_of_lt hjn), ← hI.size]; simp) fun s v hv hs => ?_
      rw [Nat.zero_add] at hs
      rw [Array.getElem?_toList] at hv
      have h1 := hI.rel s v hv
      rw [hT.readS hD hR (s := s) (by rw [ht, hG.rdS]; exact List.mem_append_right _ hs)] at h1
      exact h1.on fun c hc => .inr (.inr (hV.env ρ (hG.umn s hs c hc)))
    refine aopT_sound hTy hΓ hG.run (by rw [← hG.pre]; exact hpre) hFloc (hV.rep hI.rep) _ _ fun v w' ρL' hv hRL hE => ?_
    have hm' : ∀ b, curM Ms ts n D' b = if b ∈ wr ∨ (Ms j).length ≤ b ∧ b < t0.ev.mem.length then t0.ev.mem[b]? else curM Ms ts n D b := by
      intro b
      have hmem : b ∈ (ts j).wrM ↔ b ∈ wr ∨ (Ms j).length ≤ b ∧ b < t0.ev.mem.length := by
        rw [hwrM, List.mem_append, mem_range']
        have := hG.len
        constructor
        · rintro (h | ⟨h1, h2⟩)
          · exact .inl h
          · exact .inr ⟨h1, by omega⟩
        · rintro (h | ⟨h1, h2⟩)
          · exact .inl h
          · exact .inr ⟨h1, by omega⟩
      by_cases hb : b ∈ wr ∨ (Ms j).length ≤ b ∧ b < t0.ev.mem.length
      · rw [if_pos hb, hT.writeB hD hR (hmem.2 hb) hD', hM, hG.mem, mergeM_get hG.len, Nat.zero_add]
        by_cases hlt : b < (Ms j).length
        · rw [if_pos hlt]
          rcases hb with hb | hb
          · rw [if_pos (memN_iff.2 hb)]
          · omega
        · rw [if_neg hlt]
      · rw [if_neg hb]
        unfold curM
        rw [ft_other (j := j) (by
          show memN b (ts j).wrM = false
          rw [memN_false, hmem]; exact hb) hD']
    have hwas : ∀ b ∈ (ts j).wrM, curM Ms ts n D b = (Ms j)[b]? := fun b hb => hT.wasB hD hR hb
    obtain ⟨hP, henv⟩ := view_part hV hE hG.wmn (fun b hb => hwas b (by rw [hwrM]; exact List.mem_append_left _ hb))
      (fun b h1 h2 => by
        rw [hwas b (by rw [hwrM]; exact List.mem_append_right _ (mem_range'.2 ⟨h1, by omega⟩))]
        exact List.getElem?_eq_none h1)
      hG.keep hG.liv (fun b hb c hc => by
        by_cases hlt : b < t0.ev.mem.length
        · refine hG.mids b ?_ c hc
          rcases hb with hb | hb
          · exact List.mem_append_left _ hb
          · exact List.mem_append_right _ (mem_range'.2 ⟨hb, by omega⟩)
        · rw [show t0.ev.mem.at b = .dead by simp [Mem.at, List.getD_eq_getElem?_getD, List.getElem?_eq_none (Nat.le_of_not_lt hlt)]] at hc
          simp [Blk.ids] at hc) hm'
    refine hK _ _ _ ⟨by rw [put_size]; exact hI.size, ?_, hP.rep hI.rep hRL hE, hI.ext.trans (hP.ext hE), fun b => (hI.keep b).trans (hP.old b), by rw [put_defers]; exact hI.df⟩
    refine hI.slots hT hD hR hD' (by rw [ht]; exact hG.dst) hF ?_ hP.old
    rw [hG.val]
    exact hv.on fun c hc => henv c (hG.vids c hc)
  · rw [if_neg (by rw [guard_run hT hD hI hR (fun s hs => by rw [ht]; exact hs) hg]; simp)]
    have hmem : curM Ms ts n D' = curM Ms ts n D := by
      funext b
      unfold curM
      rw [ft_other (j := j) (by show memN b (ts j).wrM = false; rw [ht]; rfl) hD']
    refine hK _ _ ρ ⟨by rw [put_size]; exact hI.size, ?_, by rw [hmem]; exact hI.rep, by rw [hmem]; exact hI.ext, by rw [hmem]; exact hI.keep, by rw [put_defers]; exact hI.df⟩
    exact hI.slots hT hD hR hD' (by rw [ht]) hF rfl (fun b => .inr (.inr (by rw [hmem])))

/-! ### 4. All of them -/
def unl (listed : Array Bool) (n : Nat) : Nat := ((List.range n).filter fun i => !listed.getD i false).length
theorem unl_zero {listed : Array Bool} {n : Nat} (h : unl listed n = 0) : ∀ i, i < n → listed.getD i false = true := by
  intro i hi
  unfold unl at h
  have := List.eq_nil_of_length_eq_zero h
  rw [List.filter_eq_nil_iff] at this
  have := this i (List.mem_range.2 hi)
  simpa using this
theorem unl_set {listed : Array Bool} {n j : Nat} (hj : j < n) (hs : j < listed.size) (h : listed.getD j false = false) : unl (listed.setIfInBounds j true) n < unl listed n := by
  unfold unl
  have : ((List.range n).filter fun i => !(listed.setIfInBounds j true).getD i false) = ((List.range n).filter fun i => !listed.getD i false).filter (fun i => i != j) := by
    rw [List.filter_filter]
    apply List.filter_congr
    intro i hi
    by_cases he : i = j
    · subst he
      simp [hs]
    · rw [getD_set_ne false (Ne.symm he)]
      simp [he]
  rw [this]
  refine List.length_filter_lt_length_iff_exists.2 ⟨j, ?_, by simp⟩
  rw [List.mem_filter]
  exact ⟨List.mem_range.2 hj, by simp [h]⟩

theorem any_sound {P : Program} {W0 : World} {eid : RTy → TypeId} {Γ : Gam} {τ : Tys} (hTy : Agree ⟨P, W0, eid⟩ τ) (hΓ : GamOk P eid Γ) {w1 : World} {ρ1 : Nat → Value} {ops : Array Oper} {n : Nat} {Fs : Nat → List AV} {Ms : Nat → Mem} {ts : Nat → Tr}
    (hT : Trace Γ τ ops.toList n Fs Ms ts) (hback : backward 0 ops.toList = true) {Q : Exit → Act → World → Prop}
    (hQ : ∀ D a w ρ, (∀ i, i < n → D i = true) → Inv ⟨P, W0, eid⟩ w1 ρ1 n Fs Ms ts D a w ρ → Q .normal a w) :
    ∀ (fuel : Nat) (listed : Array Bool) (a : Act) (w : World) (ρ : Nat → Value), listed.size = n → unl listed n ≤ fuel → Closed ops.toList (fun i => listed.getD i false) → Inv ⟨P, W0, eid⟩ w1 ρ1 n Fs Ms ts (fun i => listed.getD i false) a w ρ → wpAny P .any ops Q fuel listed a w := by
  have hn : n = ops.size := by rw [hT.len]; simp
  have hnone : ∀ {listed : Array Bool}, listed.size = n → (∀ i, i < n → listed.getD i false = true) → Region.ready .any ops listed = [] := by
    intro listed hs h
    cases hr : Region.ready .any ops listed with
    | nil => rfl
    | cons j r =>
      have hj : j ∈ Region.ready .any ops listed := by rw [hr]; simp
      obtain ⟨h0, o, ho, _⟩ := mem_ready.1 hj
      have hjn : j < n := by rw [hn]; exact (Array.getElem?_eq_some_iff.1 ho).1
      have h1 := h j hjn
      simp [hs, hjn] at h0 h1
      rw [h0] at h1; cases h1
  have hfirst : ∀ {listed : Array Bool}, listed.size = n → Region.ready .any ops listed = [] → ∀ i, i < n → listed.getD i false = true := by
    intro listed hs hr i
    induction i using Nat.strongRecOn with
    | _ i ih =>
      intro hi
      cases hd : listed.getD i false with
      | true => rfl
      | false =>
        have ho : ops[i]? = some ops[i] := Array.getElem?_eq_getElem (by omega)
        have : i ∈ Region.ready .any ops listed := by
          refine mem_ready.2 ⟨by simp [hs, hi] at hd ⊢; exact hd, _, ho, fun e he hb => ?_⟩
          have hbk : ∀ (l : List Oper) (k : Nat), backward k l = true → ∀ (j : Nat) (o : Oper), l[j]? = some o → ∀ e ∈ o.after.toList, Region.binds .any e = true → e.on < k + j := by
            intro l
            induction l with
            | nil => intro k _ j o h; simp at h
            | cons p r ihl =>
              intro k h j o hj e he hb
              simp only [backward, Bool.and_eq_true] at h
              cases j with
              | zero =>
                simp at hj; subst hj
                have := List.all_eq_true.1 h.1 e (List.mem_filter.2 ⟨he, hb⟩)
                simpa [Nat.blt_eq] using this
              | succ j =>
                have := ihl (k + 1) h.2 j o (by simpa using hj) e he hb
                omega
          have hlt := hbk ops.toList 0 hback i ops[i] (by rw [Array.getElem?_toList]; exact ho) e (by simpa using he) hb
          exact ih e.on (by omega) (by omega)
        rw [hr] at this; cases this
  intro fuel
  induction fuel with
  | zero =>
    intro listed a w ρ hs hu hc hI
    have hall := unl_zero (Nat.le_zero.1 hu)
    exact ⟨hnone hs hall, hQ _ a w ρ hall hI⟩
  | succ fuel ih =>
    intro listed a w ρ hs hu hc hI
    refine ⟨fun hr => hQ _ a w ρ (hfirst hs hr) hI, fun j hj => ?_⟩
    obtain ⟨h0, o, ho, hpre⟩ := mem_ready.1 hj
    have hjn : j < n := by rw [hn]; exact (Array.getElem?_eq_some_iff.1 ho).1
    have hun : listed.getD j false = false := by simp [hs, hjn] at h0 ⊢; exact h0
    have hset : ∀ i, (listed.setIfInBounds j true).getD i false = true ↔ listed.getD i false = true ∨ i = j := by
      intro i
      by_cases he : i = j
      · subst he; simp [hs, hjn]
      · rw [getD_set_ne false (Ne.symm he)]; simp [he]
    have hR : Ready ops.toList (fun i => listed.getD i false) j o := ⟨by rw [Array.getElem?_toList]; exact ho, hun, fun e he hb => hpre e (by simpa using he) hb⟩
    refine step_sound hTy hΓ hT hc hI hR (D' := fun i => (listed.setIfInBounds j true).getD i false) hset fun a' w' ρ' hI' => ?_
    refine ih _ a' w' ρ' (by simpa using hs) ?_ ?_ hI'
    · have := unl_set hjn (by omega) hun
      omega
    · intro k p hp hk e he hb
      rw [hset] at hk ⊢
      rcases hk with hk | rfl
      · exact .inl (hc k p hp hk e he hb)
      · have : p = o := by
          rw [Array.getElem?_toList, ho] at hp
          exact (Option.some.inj hp).symm
        subst this
        exact .inl (hpre e (by simpa using he) hb)

theorem drawOk {P : Program} {eid : RTy → TypeId} {Γ : Gam} {τ : Tys} (hTy : ∀ W0, Agree ⟨P, W0, eid⟩ τ) (hΓ : GamOk P eid Γ) (hm : P.follows .mixedOrders = true) : DrawOk P eid Γ τ := by
  intro W0 w0 ρ0 M0 id ops F M K Q a w ρ h hS hK
  obtain ⟨hback, h⟩ := ifT_iff h
  obtain ⟨Fs, Ms, trs, hl, rfl, rfl, hok, hKn, hst⟩ := runDraw_trace ops.toList F M [] h
  have hT : Trace Γ τ ops.toList ops.toList.length Fs Ms (fun i => trs.getD i ⟨none, [], [], [], [], []⟩) := by
    refine ⟨rfl, fun i o ho => ?_, fun i j hij hj => ?_⟩
    · obtain ⟨t, ht, hs⟩ := hst i o ho
      simp only [List.getD_eq_getElem?_getD, ht, Option.getD_some]
      exact hs
    · rw [List.nil_append] at hok
      have hi' : i < trs.length := by omega
      have hj' : j < trs.length := by omega
      have := okAll_iff hok i j _ _ hij (List.getElem?_eq_getElem hi') (List.getElem?_eq_getElem hj')
      simp only [Nat.zero_add] at this
      simp only [List.getD_eq_getElem?_getD, List.getElem?_eq_getElem hi', List.getElem?_eq_getElem hj', Option.getD_some] at this ⊢
      exact this
  refine wp_region_any hm ?_
  have hemp : ∀ i, (Array.replicate ops.size false).getD i false = false := by
    intro i
    by_cases hi : i < ops.size <;> simp [hi]
  have hcur : curM Ms (fun i => trs.getD i ⟨none, [], [], [], [], []⟩) ops.toList.length (fun i => (Array.replicate ops.size false).getD i false) = tab (Ms 0) := by
    funext b
    exact cur_none (val := fun i => (Ms i)[b]?) (hT.blkFr b) hemp
  have hcurF : ∀ s, curF Fs (fun i => trs.getD i ⟨none, [], [], [], [], []⟩) ops.toList.length (fun i => (Array.replicate ops.size false).getD i false) s = (Fs 0).getD s .undef := fun s =>
    cur_none (val := fun i => (Fs i).getD s .undef) (hT.slotFr s) hemp
  have hsz : a.tmps.size = (Fs 0).length := by
    have := hS.rf.length
    simpa using this
  refine any_sound (hTy W0) hΓ (w1 := w) (ρ1 := ρ) hT hback (fun D a' w' ρ' hD hI => ?_) ops.size _ a _ ρ (by simp) (by unfold unl; exact Nat.le_trans (List.length_filter_le _ _) (by simp)) (fun k o _ hk => by
    have hk : (Array.replicate ops.size false).getD k false = true := hk
    rw [hemp] at hk; cases hk) ⟨hsz, ?_, ?_, ?_, ?_, hS.df⟩
  · -- at the end
    have hc : curM Ms (fun i => trs.getD i ⟨none, [], [], [], [], []⟩) ops.toList.length D = tab (Ms ops.toList.length) := by
      funext b
      unfold curM
      rw [ft_all hD]; rfl
    have hcF : ∀ s, curF Fs (fun i => trs.getD i ⟨none, [], [], [], [], []⟩) ops.toList.length D s = (Fs ops.toList.length).getD s .undef := fun s => by unfold curF; rw [ft_all hD]
    obtain ⟨h1, h2, h3, h4, h5, h6⟩ := hI
    rw [hc] at h2 h3 h4 h5
    have hk : (envOf ρ (Ms 0)).to (envOf ρ' (Ms ops.toList.length)) := h5
    have hext : Ext w ρ (Ms 0) w' ρ' (Ms ops.toList.length) := h4.ext (hT.mlen _ (Nat.le_refl _)) hk
    refine hK _ _ a' w' ρ' hKn ⟨?_, h3.rep, h6, hS.ext.trans hext⟩
    have hlen : a'.tmps.toList.length = (Fs ops.toList.length).length := by rw [hT.flen _ (Nat.le_refl _), ← h1]; simp
    have : ∀ (F : List AV) (vs : List Value), vs.length = F.length → (∀ s v, vs[s]? = some v → RelA ⟨P, W0, eid⟩ (envOf ρ' (Ms ops.toList.length)) (F.getD s .undef) v) → RelF ⟨P, W0, eid⟩ (envOf ρ' (Ms ops.toList.length)) F vs := by
      intro F
      induction F with
      | nil => intro vs hl _; cases vs with
        | nil => trivial
        | cons => simp at hl
      | cons c r ihF =>
        intro vs hl hr
        cases vs with
        | nil => simp at hl
        | cons v s => exact ⟨by simpa using hr 0 v rfl, ihF s (by simpa using hl) fun k u hu => by simpa using hr (k + 1) u (by simpa using hu)⟩
    refine this _ _ hlen fun s v hv => ?_
    rw [Array.getElem?_toList] at hv
    have := h2 s v hv
    rw [hcF s] at this
    exact this
  · intro s v hv
    rw [hcur, hcurF s]
    cases hx : (Fs 0)[s]? with
    | none =>
      have h1 := List.getElem?_eq_none_iff.1 hx
      have h2 := (Array.getElem?_eq_some_iff.1 hv).1
      omega
    | some x =>
      obtain ⟨v', hv', hr⟩ := hS.rf.get s x hx
      rw [Array.getElem?_toList, hv] at hv'
      cases hv'
      rw [List.getD_eq_getElem?_getD, hx]
      exact hr
  · rw [hcur]
    exact ⟨hS.rep.toE.blk, hS.rep.toE.sep, hS.rep.toE.base, hS.rep.toE.ro, hS.rep.toE.sz⟩
  · rw [hcur]
    exact ⟨rfl, rfl, rfl, Nat.le_refl _, fun _ _ _ => rfl, fun b g hg => .inl ⟨b, hg⟩⟩
  · rw [hcur]
    exact fun b => .inr (.inr rfl)
end Lw
