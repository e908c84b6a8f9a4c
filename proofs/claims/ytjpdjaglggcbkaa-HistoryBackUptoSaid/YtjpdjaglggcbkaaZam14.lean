/-
  An abstract machine over the model, fourteenth part: a region whose order is open comes to what it comes to in the order of the text (the proof). No program in sight. No condition.
-/
import Derived.Test.YtjpdjaglggcbkaaZam13
namespace Go.Zam
open Go.RowKit (Below)

/-! what must stand before what -/

def inB (acc : Array Nat) (es : Array Edge) : Nat := es.foldl (fun s e => if Region.binds .any e then s ||| 2 ^ e.on ||| acc.getD e.on 0 else s) 0

theorem inB_spec (acc : Array Nat) (es : Array Edge) (k : Nat) (h : (inB acc es).testBit k = true) : ∃ e ∈ es, Region.binds .any e = true ∧ (e.on = k ∨ (acc.getD e.on 0).testBit k = true) := by
  have key : ∀ (l : List Edge) (s : Nat), (l.foldl (fun s e => if Region.binds .any e then s ||| 2 ^ e.on ||| acc.getD e.on 0 else s) s).testBit k = true →
      s.testBit k = true ∨ ∃ e ∈ l, Region.binds .any e = true ∧ (e.on = k ∨ (acc.getD e.on 0).testBit k = true) := by
    intro l
    induction l with
    | nil => intro s h; exact .inl h
    | cons e l ih =>
      intro s h
      rw [List.foldl_cons] at h
      rcases ih _ h with h1 | ⟨e', he', h2⟩
      · split at h1
        · rename_i hb
          simp only [Nat.testBit_or, Bool.or_eq_true, Nat.testBit_two_pow, decide_eq_true_eq] at h1
          rcases h1 with (h1 | h1) | h1
          · exact .inl h1
          · exact .inr ⟨e, by simp, hb, .inl h1⟩
          · exact .inr ⟨e, by simp, hb, .inr h1⟩
        · exact .inl h1
      · exact .inr ⟨e', by simp [he'], h2⟩
  unfold inB at h
  rw [← Array.foldl_toList] at h
  rcases key _ _ h with h1 | ⟨e, he, h2⟩
  · simp at h1
  · exact ⟨e, by simpa using he, h2⟩

theorem before_go : ∀ (l : List Oper) (acc : Array Nat), (∀ i, i < acc.size → (l.foldl (fun acc o => acc.push (inB acc o.after)) acc).getD i 0 = acc.getD i 0) ∧
    ∀ (j : Nat) (o : Oper), l[j]? = some o → ∃ accj : Array Nat, (∀ i, accj.getD i 0 = (l.foldl (fun acc o => acc.push (inB acc o.after)) acc).getD i 0 ∨ accj.getD i 0 = 0) ∧
      (l.foldl (fun acc o => acc.push (inB acc o.after)) acc).getD (acc.size + j) 0 = inB accj o.after := by
  intro l
  induction l with
  | nil => intro acc; exact ⟨fun _ _ => rfl, by simp⟩
  | cons o l ih =>
    intro acc
    obtain ⟨h1, h2⟩ := ih (acc.push (inB acc o.after))
    simp only [List.foldl_cons]
    have hpush : ∀ i, i < acc.size → (acc.push (inB acc o.after)).getD i 0 = acc.getD i 0 := fun i hi => by simp [Array.getElem?_push, Nat.ne_of_lt hi]
    refine ⟨fun i hi => by rw [h1 i (by simp; omega), hpush i hi], fun j q hq => ?_⟩
    cases j with
    | zero =>
      simp at hq
      subst hq
      refine ⟨acc, fun i => ?_, ?_⟩
      · by_cases hi : i < acc.size
        · left; rw [h1 i (by simp; omega), hpush i hi]
        · right; simp [Array.getElem?_eq_none (Nat.le_of_not_lt hi)]
      · rw [Nat.add_zero, h1 acc.size (by simp)]; simp
    | succ j =>
      obtain ⟨accj, a1, a2⟩ := h2 j q (by simpa using hq)
      refine ⟨accj, a1, ?_⟩
      rw [← a2]; simp only [Array.size_push]; congr 1; omega

theorem before_spec {ops : Array Oper} {j k : Nat} {o : Oper} (ho : ops[j]? = some o) (h : ((Region.before ops).getD j 0).testBit k = true) :
    ∃ e ∈ o.after, Region.binds .any e = true ∧ (e.on = k ∨ ((Region.before ops).getD e.on 0).testBit k = true) := by
  have hb : Region.before ops = ops.toList.foldl (fun acc o => acc.push (inB acc o.after)) #[] := by
    unfold Region.before
    rw [← Array.foldl_toList]
    rfl
  obtain ⟨accj, h1, h2⟩ := (before_go ops.toList #[]).2 j o (by simpa using ho)
  simp only [List.size_toArray, List.length_nil, Nat.zero_add] at h2
  rw [hb, h2] at h
  obtain ⟨e, he, h3, h4⟩ := inB_spec _ _ _ h
  refine ⟨e, he, h3, h4.imp id fun h5 => ?_⟩
  rcases h1 e.on with h6 | h6
  · rw [hb, ← h6]; exact h5
  · rw [h6] at h5; simp at h5

/-- A-version: what succeeds in the lesser memory -/
theorem stepI_cls1' {fr : Fr} {H H' : Hp} {i : I} {v : A} (hc : i.cls = 1) {vv : Bool} (hvv : i.vread = true → vv = true) (h : stepI fr H i = some (v, H')) : ∀ (H2 : Hp), Alike vv H.length H H2 → stepI fr H2 i = some (v, H2) := by
  have lt : ∀ {j : Nat} {x : Ob}, H[j]? = some x → j < H.length := fun h => (List.getElem?_eq_some_iff.1 h).1
  cases i <;> first | (simp only [I.cls] at hc; exact absurd hc (by decide)) | skip
  case load n g x =>
    simp only [stepI, Option.map_eq_some_iff, Prod.mk.injEq] at h
    obtain ⟨cs, h1, h2, h3⟩ := h
    intro H2 ha
    have : ldA H2 n (x.ev fr) = some cs := by
      generalize x.ev fr = p at h1
      unfold ldA at h1
      split at h1
      · split at h1
        · rename_i e
          simp only [ldA, (ha _ (lt e) _ rfl).1 e]; exact h1
        · cases h1
      · split at h1
        · rename_i e
          simp only [ldA, (ha _ (lt e) _ rfl).1 e]; exact h1
        · cases h1
      · exact h1
      · cases h1
    simp only [stepI, this, Option.map_some, Option.some.injEq, Prod.mk.injEq]
    exact ⟨h2, trivial⟩
  case iaddr n x y =>
    simp only [stepI, Option.map_eq_some_iff, Prod.mk.injEq] at h
    obtain ⟨u, h1, h2, h3⟩ := h
    intro H2 ha
    have : iaddrA H2 n (x.ev fr) (y.ev fr) = some u := by
      generalize x.ev fr = p at h1
      generalize y.ev fr = q at h1
      unfold iaddrA at h1
      split at h1
      · exact h1
      · exact h1
      · split at h1
        · rename_i e
          simp only [iaddrA, (ha _ (lt e) _ rfl).1 e]; exact h1
        · cases h1
      · cases h1
    simp only [stepI, this, Option.map_some, Option.some.injEq, Prod.mk.injEq]
    exact ⟨h2, trivial⟩
  case iaddrV n x y =>
    obtain rfl : vv = true := hvv rfl
    simp only [stepI, Option.map_eq_some_iff, Prod.mk.injEq] at h
    obtain ⟨u, h1, h2, h3⟩ := h
    intro H2 ha
    have : iaddrV H2 n (x.ev fr) (y.ev fr) = some u := by
      generalize x.ev fr = p at h1 ⊢
      generalize y.ev fr = q at h1 ⊢
      unfold iaddrV at h1
      split at h1
      · split at h1
        · rename_i e
          simp only [iaddrV, (ha _ (lt e) _ rfl).1 e]; exact h1
        · cases h1
      · cases h1
    simp only [stepI, this, Option.map_some, Option.some.injEq, Prod.mk.injEq]
    exact ⟨h2, trivial⟩
  case loadV n g x =>
    obtain rfl : vv = true := hvv rfl
    simp only [stepI, Option.map_eq_some_iff, Prod.mk.injEq] at h
    obtain ⟨cs, h1, h2, h3⟩ := h
    intro H2 ha
    have : ldV H2 n (x.ev fr) = some cs := by
      generalize x.ev fr = p at h1 ⊢
      unfold ldV at h1
      split at h1
      · split at h1
        · rename_i e
          simp only [ldV, (ha _ (lt e) _ rfl).1 e]; exact h1
        · cases h1
      · cases h1
    simp only [stepI, this, Option.map_some, Option.some.injEq, Prod.mk.injEq]
    exact ⟨h2, trivial⟩
  case lkp ok key ag z x y =>
    intro H2 ha
    simp only [stepI] at h
    split at h
    · rename_i kd i e1 e2
      split at h
      · rename_i l hH
        split at h
        · rename_i hok
          split at h <;> (cases h; have := (ha _ (lt hH) _ rfl).1 hH; simp only [stepI, e1, e2, this, hok, if_true]; simp only [*])
        · cases h
      · cases h
    · rename_i kd e1 e2
      split at h
      · rename_i hok
        cases h
        simp only [stepI, e1, e2, hok, if_true]
      · cases h
    · cases h

section run
variable {P : Program} {l : List IOp} {frs : Nat → Fr} {Hs : Nat → Hp} {vs : Nat → A}

def frOf (l : List IOp) (vs : Nat → A) (fr : Fr) (S : Nat → Bool) : Nat → Fr
  | 0 => fr
  | k + 1 => if S k then (frOf l vs fr S k).put (l.getD k badOp).dst (vs k) else frOf l vs fr S k

def isEff (l : List IOp) (k : Nat) : Bool := (l.getD k badOp).i.cls == 2 || (l.getD k badOp).i.cls == 4

def hiOf (l : List IOp) (S : Nat → Bool) : Nat → Nat
  | 0 => 0
  | k + 1 => if S k && isEff l k then k + 1 else hiOf l S k

theorem hiOf_le (S : Nat → Bool) : ∀ n, hiOf l S n ≤ n
  | 0 => Nat.le_refl _
  | k + 1 => by unfold hiOf; split; exact Nat.le_refl _; exact Nat.le_succ_of_le (hiOf_le S k)

theorem hiOf_ge (S : Nat → Bool) : ∀ (n k : Nat), k < n → S k = true → isEff l k = true → k + 1 ≤ hiOf l S n
  | 0, k, h, _, _ => by omega
  | n + 1, k, h, h1, h2 => by
    unfold hiOf
    by_cases hkn : k = n
    · subst hkn; rw [if_pos (by simp [h1, h2])]; exact Nat.le_refl _
    · split
      · omega
      · exact hiOf_ge S n k (by omega) h1 h2

theorem hiOf_in (S : Nat → Bool) : ∀ n, hiOf l S n = 0 ∨ ∃ k, k < n ∧ hiOf l S n = k + 1 ∧ S k = true ∧ isEff l k = true
  | 0 => .inl rfl
  | n + 1 => by
    unfold hiOf
    split
    · rename_i h; simp only [Bool.and_eq_true] at h; exact .inr ⟨n, by omega, rfl, h.1, h.2⟩
    · rcases hiOf_in S n with h | ⟨k, h1, h2, h3⟩
      · exact .inl h
      · exact .inr ⟨k, by omega, h2, h3⟩

theorem put_ne {fr : Fr} {d : Option Nat} {v : A} {s : Nat} (h : d ≠ some s) : (fr.put d v) s = fr s := by
  cases d with
  | none => rfl
  | some d => simp only [Fr.put, Fr.set]; rw [if_neg (fun e => h (by rw [e]))]

theorem put_eq {fr : Fr} {v : A} {s : Nat} : (fr.put (some s) v) s = v := by simp [Fr.put, Fr.set]

theorem getD_of {k : Nat} {o : IOp} (h : l[k]? = some o) : l.getD k badOp = o := by simp [List.getD, h]

/-- the run, step by step -/
def Runs (P : Program) (l : List IOp) (frs : Nat → Fr) (Hs : Nat → Hp) (vs : Nat → A) : Prop :=
  ∀ (k : Nat) (o : IOp), l[k]? = some o → StepG P (frs k) (Hs k) o (vs k) (Hs (k + 1)) ∧ frs (k + 1) = (frs k).put o.dst (vs k)

theorem Runs.stepD {hr : Runs P l frs Hs vs} {k : Nat} {o : IOp} (ho : l[k]? = some o) : StepD P (frs k) (Hs k) o.i (vs k) (Hs (k + 1)) ∨ Hs (k + 1) = Hs k := by
  have h := (hr k o ho).1
  unfold StepG at h
  split at h
  · exact .inl h
  · rcases h with ⟨-, h⟩ | ⟨-, -, h⟩
    · exact .inl h
    · exact .inr h

theorem Runs.quiet (hr : Runs P l frs Hs vs) {k : Nat} (hk : k < l.length) (he : isEff l k = false) : Hs (k + 1) = Hs k := by
  have ho := List.getElem?_eq_getElem hk
  unfold isEff at he
  rw [getD_of ho] at he
  simp only [Bool.or_eq_false_iff, beq_eq_false_iff_ne] at he
  rcases hr.stepD ho with h | h
  · rcases h with ⟨-, h⟩ | ⟨hc, h⟩
    · exact h
    · rcases cls_le (l[k]).i with h0 | h0 | h0 | h0 | h0
      · exact (stepI_cls0 h0 h).1
      · exact (stepI_cls1 h0 (vv := true) (fun _ => rfl) h).1
      · exact absurd h0 he.1
      · exact absurd h0 hc
      · exact absurd h0 he.2
  · exact h

theorem Runs.same (hr : Runs P l frs Hs vs) {a : Nat} : ∀ (d : Nat), a + d ≤ l.length → (∀ k, a ≤ k → k < a + d → isEff l k = false) → Hs (a + d) = Hs a
  | 0, _, _ => rfl
  | d + 1, h, he => by
    rw [← Nat.add_assoc, hr.quiet (by omega) (he (a + d) (by omega) (by omega))]
    exact hr.same d (by omega) fun k h1 h2 => he k h1 (by omega)

theorem Runs.alike (hr : Runs P l frs Hs vs) {vv : Bool} (hva : vv = true → ∀ k, (l.getD k badOp).i.vapp = false) {a : Nat} : ∀ (d : Nat), a + d ≤ l.length → (∀ k, a ≤ k → k < a + d → (l.getD k badOp).i.cls ≠ 4) → (Hs a).length ≤ (Hs (a + d)).length ∧ Alike vv (Hs a).length (Hs a) (Hs (a + d))
  | 0, _, _ => ⟨Nat.le_refl _, .refl _ _ _⟩
  | d + 1, h, he => by
    obtain ⟨h1, h2⟩ := hr.alike hva d (by omega) fun k h1 h2 => he k h1 (by omega)
    rw [← Nat.add_assoc]
    have hk : a + d < l.length := by omega
    have ho := List.getElem?_eq_getElem hk
    have hc4 := he (a + d) (by omega) (by omega)
    have step : (Hs (a + d)).length ≤ (Hs (a + d + 1)).length ∧ Alike vv (Hs (a + d)).length (Hs (a + d)) (Hs (a + d + 1)) := by
      by_cases hE : isEff l (a + d) = true
      · rw [getD_of ho] at hc4
        unfold isEff at hE
        rw [getD_of ho] at hE
        simp only [Bool.or_eq_true, beq_iff_eq] at hE
        have hc2 := hE.resolve_right hc4
        rcases hr.stepD ho with hs | hs
        · rcases hs with ⟨-, hs⟩ | ⟨-, hs⟩
          · rw [hs]; exact ⟨Nat.le_refl _, .refl _ _ _⟩
          · exact stepI_cls2 hc2 (fun hv => by
              cases vv with
              | false => rfl
              | true => have := hva rfl (a + d); rw [getD_of ho, hv] at this; cases this) hs
        · rw [hs]; exact ⟨Nat.le_refl _, .refl _ _ _⟩
      · rw [hr.quiet hk (by simpa using hE)]; exact ⟨Nat.le_refl _, .refl _ _ _⟩
    exact ⟨Nat.le_trans h1 step.1, h2.trans (step.2.mono h1)⟩

end run

theorem VR.at_lt {κ : K} {n : Nat} (hd : ∀ i, n ≤ i → κ.β i = .none) {v : Value} {a : A} (h : VR κ v a) {j : Nat} (hj : a.at? = some j) : j < n := by
  have hlt : ∀ i, κ.β i ≠ .none → i < n := fun i hi => Nat.lt_of_not_le fun hle => hi (hd i hle)
  cases h with
  | msl i off len b sz o cap hb h1 h2 h3 => simp only [A.at?, Option.some.injEq] at hj; subst hj; exact hlt _ (by rcases hb with hb | hb <;> rw [hb] <;> simp)
  | ptr i off b hb => simp only [A.at?, Option.some.injEq] at hj; subst hj; exact hlt _ (by rw [hb]; simp)
  | vsl i k len ad cap _ hf => simp only [A.at?, Option.some.injEq] at hj; subst hj; exact hlt _ (by intro h0; rw [h0] at hf; exact hf)
  | vptr i k idx off b o hf => simp only [A.at?, Option.some.injEq] at hj; subst hj; exact hlt _ (by intro h0; rw [h0] at hf; exact hf)
  | map i b hb => simp only [A.at?, Option.some.injEq] at hj; subst hj; exact hlt _ (by rw [hb]; simp)
  | aptr i idx off b sz hb => simp only [A.at?, Option.some.injEq] at hj; subst hj; exact hlt _ (by rcases hb with hb | hb <;> rw [hb] <;> simp)
  | _ => simp [A.at?] at hj

theorem getD_replicate (n k : Nat) : (Array.replicate n false).getD k false = false := by
  rw [Array.getD_eq_getD_getElem?]
  by_cases h : k < n
  · simp [h]
  · simp [h]

theorem getD_setB (listed : Array Bool) (i k : Nat) (hi : i < listed.size) : (listed.setIfInBounds i true).getD k false = (listed.getD k false || k == i) := by
  rw [Array.getD_eq_getD_getElem?, Array.getD_eq_getD_getElem?]
  by_cases h : i = k
  · subst h; simp [hi]
  · rw [Array.getElem?_setIfInBounds_ne h]
    have : (k == i) = false := by simpa using fun e => h e.symm
    simp [this]

section main
variable {P : Program} {κ0 : K} {nt : Nat} {tok : List Nat} {ops : Array Oper} {l : List IOp} {frs : Nat → Fr} {Hs : Nat → Hp} {vs : Nat → A} {S : Nat → Bool}

/-- the checks, and what has been done so far -/
structure Ctx (ops : Array Oper) (l : List IOp) (S : Nat → Bool) : Prop where
  len : l.length = ops.size
  tied : ∀ i j, i < j → j < ops.size → Go.Zam.tied (l.getD i badOp) (l.getD j badOp) = true → ((Region.before ops).getD j 0).testBit i = true
  va : (l.any fun o => o.i.vread) = true → ∀ k, (l.getD k badOp).i.vapp = false
  cl : ∀ j, j < ops.size → S j = true → ∀ k, ((Region.before ops).getD j 0).testBit k = true → S k = true

theorem tied_read {a b : IOp} {s : Nat} (h : a.dst = some s) (h2 : s ∈ b.reads) : tied a b = true := by
  simp [tied, h, h2]
theorem tied_read' {a b : IOp} {s : Nat} (h : b.dst = some s) (h2 : s ∈ a.reads) : tied a b = true := by
  simp [tied, h, h2]
theorem tied_dst {a b : IOp} {s : Nat} (h : a.dst = some s) (h2 : b.dst = some s) : tied a b = true := by
  simp [tied, h, h2]
theorem tied_clash {a b : IOp} (h : clash a.i.cls b.i.cls = true) : tied a b = true := by
  simp [tied, h]

/-- what an operation reads when it is ready is what it reads in the text's order -/
theorem Ctx.slot (c : Ctx ops l S) (hr : Runs P l frs Hs vs) {i : Nat} (hi : i < ops.size) (hiS : S i = false) (hb : ∀ k, ((Region.before ops).getD i 0).testBit k = true → S k = true) {s : Nat} (hs : s ∈ (l.getD i badOp).reads) :
    ∀ m, m ≤ ops.size → frOf l vs (frs 0) S m s = frs (min m i) s := by
  intro m
  induction m with
  | zero => intro _; simp [frOf]
  | succ m ih =>
    intro hm
    have ih' := ih (by omega)
    have ho := List.getElem?_eq_getElem (l := l) (i := m) (by rw [c.len]; omega)
    have hstep := (hr m _ ho).2
    by_cases hmi : m < i
    · rw [Nat.min_eq_left (by omega), hstep]
      rw [Nat.min_eq_left (by omega)] at ih'
      by_cases hd : (l[m]'(by rw [c.len]; omega)).dst = some s
      · have hS := hb m (c.tied m i hmi hi (tied_read (by rw [getD_of ho]; exact hd) hs))
        unfold frOf
        rw [if_pos hS, getD_of ho, hd, put_eq, put_eq]
      · rw [put_ne hd]
        unfold frOf
        split
        · rw [getD_of ho, put_ne hd]; exact ih'
        · exact ih'
    · rw [Nat.min_eq_right (by omega)]
      rw [Nat.min_eq_right (by omega)] at ih'
      unfold frOf
      split
      · rename_i hS
        rw [getD_of ho]
        by_cases hd : (l[m]'(by rw [c.len]; omega)).dst = some s
        · exfalso
          have hne : m ≠ i := fun e => by subst e; rw [hiS] at hS; cases hS
          have := c.cl m (by omega) hS i (c.tied i m (by omega) (by omega) (tied_read' (by rw [getD_of ho]; exact hd) hs))
          rw [hiS] at this; cases this
        · rw [put_ne hd]; exact ih'
      · exact ih'

/-- one more is done: the slots -/
theorem Ctx.next (c : Ctx ops l S) {i : Nat} (hi : i < ops.size) (hiS : S i = false) (fr : Fr) :
    frOf l vs fr (fun k => S k || k == i) ops.size = (frOf l vs fr S ops.size).put (l.getD i badOp).dst (vs i) := by
  funext s
  have lo : ∀ m, m ≤ i → frOf l vs fr (fun k => S k || k == i) m s = frOf l vs fr S m s := by
    intro m
    induction m with
    | zero => intro _; rfl
    | succ m ih =>
      intro hm
      unfold frOf
      have : (S m || m == i) = S m := by have : (m == i) = false := by simp; omega
                                         rw [this, Bool.or_false]
      simp only [this]
      split
      · by_cases hd : (l.getD m badOp).dst = some s
        · rw [hd, put_eq, put_eq]
        · rw [put_ne hd, put_ne hd]; exact ih (by omega)
      · exact ih (by omega)
  by_cases hd : (l.getD i badOp).dst = some s
  · rw [hd, put_eq]
    have hi' : ∀ m, i < m → m ≤ ops.size → frOf l vs fr (fun k => S k || k == i) m s = vs i := by
      intro m
      induction m with
      | zero => intro h; omega
      | succ m ih =>
        intro h1 h2
        unfold frOf
        by_cases hmi : m = i
        · subst hmi; rw [if_pos (by simp), hd, put_eq]
        · have : (S m || m == i) = S m := by have : (m == i) = false := by simpa using hmi
                                             rw [this, Bool.or_false]
          simp only [this]
          split
          · rename_i hS
            have hdm : (l.getD m badOp).dst ≠ some s := fun e => by
              have := c.cl m (by omega) hS i (c.tied i m (by omega) (by omega) (tied_dst hd e))
              rw [hiS] at this; cases this
            rw [put_ne hdm]; exact ih (by omega) (by omega)
          · exact ih (by omega) (by omega)
    exact hi' _ hi (Nat.le_refl _)
  · rw [put_ne hd]
    have : ∀ m, frOf l vs fr (fun k => S k || k == i) m s = frOf l vs fr S m s := by
      intro m
      induction m with
      | zero => rfl
      | succ m ih =>
        unfold frOf
        by_cases hmi : m = i
        · subst hmi
          rw [if_pos (by simp), if_neg (by rw [hiS]; simp), put_ne hd]; exact ih
        · have : (S m || m == i) = S m := by have : (m == i) = false := by simpa using hmi
                                             rw [this, Bool.or_false]
          simp only [this]
          split
          · by_cases hdm : (l.getD m badOp).dst = some s
            · rw [hdm, put_eq, put_eq]
            · rw [put_ne hdm, put_ne hdm]; exact ih
          · exact ih
    exact this _

theorem Ctx.hi_quiet {i : Nat} (he : isEff l i = false) : ∀ n, hiOf l (fun k => S k || k == i) n = hiOf l S n
  | 0 => rfl
  | n + 1 => by
    unfold hiOf
    rw [Ctx.hi_quiet he n]
    by_cases hni : n = i
    · subst hni; simp [he]
    · have : (n == i) = false := by simpa using hni
      simp only [this, Bool.or_false]

/-- an operation that must find memory as in the text's order -/
theorem Ctx.exact (c : Ctx ops l S) (hr : Runs P l frs Hs vs) {i : Nat} (hi : i < ops.size) (hiS : S i = false) (hb : ∀ k, ((Region.before ops).getD i 0).testBit k = true → S k = true)
    (hc : ∀ q, (q = 2 ∨ q = 4) → clash q (l.getD i badOp).i.cls = true ∧ clash (l.getD i badOp).i.cls q = true) : hiOf l S ops.size ≤ i ∧ Hs (hiOf l S ops.size) = Hs i := by
  have heff : ∀ k, isEff l k = true → (l.getD k badOp).i.cls = 2 ∨ (l.getD k badOp).i.cls = 4 := fun k hk => by
    unfold isEff at hk; simpa using hk
  have hle : hiOf l S ops.size ≤ i := by
    rcases hiOf_in (l := l) S ops.size with h | ⟨k, h1, h2, h3, h4⟩
    · omega
    · rw [h2]
      refine Nat.lt_of_not_le fun hle => ?_
      have hne : i ≠ k := fun e => by subst e; rw [hiS] at h3; cases h3
      have := c.cl k h1 h3 i (c.tied i k (by omega) h1 (tied_clash (hc _ (heff k h4)).2))
      rw [hiS] at this; cases this
  refine ⟨hle, ?_⟩
  have := hr.same (a := hiOf l S ops.size) (i - hiOf l S ops.size) (by rw [c.len]; omega) (fun k h1 h2 => by
    cases he : isEff l k with
    | false => rfl
    | true =>
      have hki : k < i := by omega
      have hS := hb k (c.tied k i hki hi (tied_clash (hc _ (heff k he)).1))
      have := hiOf_ge (l := l) S ops.size k (by omega) hS he
      omega)
  rw [← this]; congr 1; omega

theorem Ctx.eff (c : Ctx ops l S) {i : Nat} (hi : i < ops.size) (hiS : S i = false) (he : isEff l i = true) : hiOf l (fun k => S k || k == i) ops.size = i + 1 := by
  have h1 := hiOf_ge (l := l) (fun k => S k || k == i) ops.size i hi (by simp) he
  rcases hiOf_in (l := l) (fun k => S k || k == i) ops.size with h | ⟨k, k1, k2, k3, k4⟩
  · omega
  · by_cases hk : k = i
    · rw [k2, hk]
    · exfalso
      have hS : S k = true := by have : (k == i) = false := by simpa using hk
                                 rwa [this, Bool.or_false] at k3
      have heff : ∀ k, isEff l k = true → (l.getD k badOp).i.cls = 2 ∨ (l.getD k badOp).i.cls = 4 := fun k hk => by
        unfold isEff at hk; simpa using hk
      have hcl : clash (l.getD i badOp).i.cls (l.getD k badOp).i.cls = true := by
        rcases heff i he with e1 | e1 <;> rcases heff k k4 with e2 | e2 <;> rw [e1, e2] <;> rfl
      have := c.cl k k1 hS i (c.tied i k (by omega) k1 (tied_clash hcl))
      rw [hiS] at this; cases this

/-- a load finds what it finds in the text's order -/
theorem Ctx.load (c : Ctx ops l S) (hr : Runs P l frs Hs vs) {i : Nat} (hi : i < ops.size) (hiS : S i = false) (hb : ∀ k, ((Region.before ops).getD i 0).testBit k = true → S k = true) (h1 : (l.getD i badOp).i.cls = 1)
    {fr : Fr} {v : A} {H' : Hp} (hst : stepI fr (Hs i) (l.getD i badOp).i = some (v, H')) (hat : ∀ s ∈ (l.getD i badOp).i.slots, ∀ j, (fr s).at? = some j → j < (Hs (hiOf l S ops.size)).length) :
    stepI fr (Hs (hiOf l S ops.size)) (l.getD i badOp).i = some (v, Hs (hiOf l S ops.size)) := by
  have hvr : (l.getD i badOp).i.vread = true → (l.any fun o => o.i.vread) = true := fun h => by
    have hil : i < l.length := by rw [c.len]; exact hi
    rw [getD_of (List.getElem?_eq_getElem hil)] at h
    exact List.any_eq_true.2 ⟨_, List.getElem_mem hil, h⟩
  by_cases hle : hiOf l S ops.size ≤ i
  · have := hr.alike c.va (a := hiOf l S ops.size) (i - hiOf l S ops.size) (by rw [c.len]; omega) (fun k k1 k2 hk4 => by
      have hS := hb k (c.tied k i (by omega) hi (tied_clash (by rw [hk4, h1]; rfl)))
      have := hiOf_ge (l := l) S ops.size k (by omega) hS (by unfold isEff; rw [hk4]; rfl)
      omega)
    rw [show hiOf l S ops.size + (i - hiOf l S ops.size) = i by omega] at this
    exact (stepI_cls1 h1 hvr hst).2 _ _ hat this.2.symm
  · rcases hiOf_in (l := l) S ops.size with h | ⟨k, k1, k2, k3, k4⟩
    · omega
    · have := hr.alike c.va (a := i) (hiOf l S ops.size - i) (by rw [c.len]; have := hiOf_le (l := l) S ops.size; omega) (fun q q1 q2 hq4 => by
        have hqi : q ≠ i := fun e => by subst e; rw [h1] at hq4; cases hq4
        have hqS : S q = true := by
          by_cases hqk : q = k
          · subst hqk; exact k3
          · refine c.cl k k1 k3 q (c.tied q k (by omega) k1 (tied_clash ?_))
            have : (l.getD k badOp).i.cls = 2 ∨ (l.getD k badOp).i.cls = 4 := by unfold isEff at k4; simpa using k4
            rcases this with e | e <;> rw [hq4, e] <;> rfl
        have := c.cl q (by omega) hqS i (c.tied i q (by omega) (by omega) (tied_clash (by rw [h1, hq4]; rfl)))
        rw [hiS] at this; cases this)
      rw [show i + (hiOf l S ops.size - i) = hiOf l S ops.size by omega] at this
      exact stepI_cls1' h1 hvr hst _ this.2

end main

theorem slots_reads {o : IOp} {s : Nat} (h : s ∈ o.i.slots) : s ∈ o.reads := by simp [IOp.reads, h]

theorem draw_sound {P : Program} {κ0 : K} {nt : Nat} {tok : List Nat} {ops : Array Oper} {K : Fr → Hp → Prop} {Q : Exit → Act → World → Prop} (hK : ∀ κ fr H a w, κ0.le κ → SR κ nt fr H a w → K fr H → Q .normal a w)
    (hok : drawOk (ops.toList.map (compO P nt tok ops)) ops (Region.before ops) = true) {κ1 : Zam.K} {fr : Fr} {H : Hp} {a : Act} {w : World} (h01 : κ0.le κ1) (hs1 : SR κ1 nt fr H a w) (h : ADraw P (ops.toList.map (compO P nt tok ops)) K fr H) :
    wpAny P .any ops Q ops.size (Array.replicate ops.size false) a w := by
  obtain ⟨frs, Hs, vs, r0, r1, hr, hfin⟩ := draw_run _ _ _ h
  generalize hl : ops.toList.map (compO P nt tok ops) = l at *
  have hlen : l.length = ops.size := by rw [← hl]; simp
  rw [hlen] at hfin
  have hget : ∀ (k : Nat) (o : Oper), ops[k]? = some o → l.getD k badOp = compO P nt tok ops o ∧ l[k]? = some (compO P nt tok ops o) := fun k o ho => by
    have : l[k]? = some (compO P nt tok ops o) := by rw [← hl, List.getElem?_map]; simp [ho]
    exact ⟨getD_of this, this⟩
  subst r0
  subst r1
  have hR : Runs P l frs Hs vs := hr
  unfold drawOk at hok
  simp only [List.all_eq_true, List.mem_range, Bool.and_eq_true, Bool.or_eq_true, Bool.not_eq_true', Array.all_eq_true_iff_forall_mem, decide_eq_true_eq] at hok
  obtain ⟨hok0, hok⟩ := hok
  have hvva : (l.any fun o => o.i.vread) = true → ∀ k, (l.getD k badOp).i.vapp = false := fun h k => by
    rw [Bool.and_eq_false_iff] at hok0
    rcases hok0 with h0 | h0
    · rw [h] at h0; cases h0
    · by_cases hk : k < l.length
      · rw [getD_of (List.getElem?_eq_getElem hk)]
        have := List.any_eq_false.1 h0 _ (List.getElem_mem hk)
        simpa using this
      · simp [List.getD, List.getElem?_eq_none (Nat.le_of_not_lt hk), badOp, I.vapp]
  have htied : ∀ i j, i < j → j < ops.size → tied (l.getD i badOp) (l.getD j badOp) = true → ((Region.before ops).getD j 0).testBit i = true := fun i j hij hj ht =>
    ((hok j hj).2 i hij).resolve_left (by rw [ht]; simp)
  have hedge : ∀ j o, ops[j]? = some o → ∀ e ∈ o.after, Region.binds .any e = true → e.on < j := fun j o ho e he hb => by
    have hj : j < ops.size := (Array.getElem?_eq_some_iff.1 ho).1
    have := (hok j hj).1 e (by simpa [ho] using he)
    exact this.resolve_left (by rw [hb]; simp)
  have done : ∀ (listed : Array Bool) (κ : Zam.K) (a : Act) (w : World), (∀ k, k < ops.size → listed.getD k false = true) → κ0.le κ →
      SR κ nt (frOf l vs (frs 0) (fun k => listed.getD k false) ops.size) (Hs (hiOf l (fun k => listed.getD k false) ops.size)) a w → Q .normal a w := by
    intro listed κ a w hall h0 hs
    have e1 : ∀ m, m ≤ ops.size → frOf l vs (frs 0) (fun k => listed.getD k false) m = frs m := fun m => by
      induction m with
      | zero => intro _; rfl
      | succ m ih =>
        intro hm
        have ho := List.getElem?_eq_getElem (l := l) (i := m) (by omega)
        unfold frOf
        rw [if_pos (hall m (by omega)), ih (by omega), (hR m _ ho).2, getD_of ho]
    have e2 : Hs (hiOf l (fun k => listed.getD k false) ops.size) = Hs ops.size := by
      have hle := hiOf_le (l := l) (fun k => listed.getD k false) ops.size
      have := hR.same (a := hiOf l (fun k => listed.getD k false) ops.size) (ops.size - hiOf l (fun k => listed.getD k false) ops.size) (by omega) (fun k h1 h2 => by
        cases he : isEff l k with
        | false => rfl
        | true => have := hiOf_ge (l := l) (fun k => listed.getD k false) ops.size k (by omega) (hall k (by omega)) he; omega)
      rw [← this]; congr 1; omega
    rw [e1 _ (Nat.le_refl _), e2] at hs
    exact hK κ _ _ a w h0 hs hfin
  have main : ∀ (fuel : Nat) (listed : Array Bool) (κ : Zam.K) (a : Act) (w : World), listed.size = ops.size → (∀ j, j < ops.size → listed.getD j false = true → ∀ k, ((Region.before ops).getD j 0).testBit k = true → listed.getD k false = true) →
      κ0.le κ → SR κ nt (frOf l vs (frs 0) (fun k => listed.getD k false) ops.size) (Hs (hiOf l (fun k => listed.getD k false) ops.size)) a w → ((List.range ops.size).filter fun k => !listed.getD k false).length ≤ fuel →
      wpAny P .any ops Q fuel listed a w := by
    intro fuel
    induction fuel with
    | zero =>
      intro listed κ a w hsz hcl h0 hs hcnt
      have hall : ∀ k, k < ops.size → listed.getD k false = true := fun k hk => by
        cases hk' : listed.getD k false with
        | true => rfl
        | false =>
          have : k ∈ (List.range ops.size).filter fun k => !listed.getD k false := by simp only [List.mem_filter, List.mem_range]; exact ⟨hk, by rw [hk']; rfl⟩
          have := List.length_pos_of_mem this
          omega
      refine ⟨?_, ?_⟩
      · refine List.eq_nil_iff_forall_not_mem.2 fun i hi => ?_
        obtain ⟨h1, o, ho, -⟩ := mem_ready.1 hi
        have := hall i (Array.getElem?_eq_some_iff.1 ho).1
        have hi' : i < listed.size := by rw [hsz]; exact (Array.getElem?_eq_some_iff.1 ho).1
        simp [hi'] at h1 this
        rw [h1] at this; cases this
      · exact done listed κ a w hall h0 hs
    | succ fuel ih =>
      intro listed κ a w hsz hcl h0 hs hcnt
      refine ⟨fun hnil => ?_, fun i hi => ?_⟩
      · -- nothing is ready: all is done
        refine done listed κ a w (fun k hk => ?_) h0 hs
        induction k using Nat.strongRecOn with
        | _ k ihk =>
          cases hk' : listed.getD k false with
          | true => rfl
          | false =>
            exfalso
            have ho : ops[k]? = some ops[k] := Array.getElem?_eq_getElem hk
            have : k ∈ Region.ready .any ops listed := mem_ready.2 ⟨by
              have : k < listed.size := by omega
              simp [this] at hk' ⊢; exact hk', ops[k], ho, fun e he hb => ihk e.on (hedge k _ ho e he hb) (by have := hedge k _ ho e he hb; omega)⟩
            rw [hnil] at this; cases this
      · obtain ⟨h1, o, ho, hbefore⟩ := mem_ready.1 hi
        have hi' : i < ops.size := (Array.getElem?_eq_some_iff.1 ho).1
        have hil : i < listed.size := by omega
        have hiS : listed.getD i false = false := by simp [hil] at h1 ⊢; exact h1
        have hb : ∀ k, ((Region.before ops).getD i 0).testBit k = true → listed.getD k false = true := fun k hk => by
          obtain ⟨e, he, hbe, hor⟩ := before_spec ho hk
          have hon := hbefore e he hbe
          rcases hor with rfl | hor
          · exact hon
          · exact hcl e.on (by have := hedge i o ho e he hbe; omega) hon k hor
        have c : Ctx ops l (fun k => listed.getD k false) := ⟨hlen, htied, hvva, hcl⟩
        obtain ⟨hgd, hg?⟩ := hget i o ho
        have hslot : ∀ s ∈ (l.getD i badOp).reads, frOf l vs (frs 0) (fun k => listed.getD k false) ops.size s = frs i s := fun s hs => by
          have := c.slot hR hi' hiS hb hs ops.size (Nat.le_refl _)
          rwa [Nat.min_eq_right (by omega)] at this
        -- what follows
        have follow : ∀ κ' a' w', κ0.le κ' → SR κ' nt ((frOf l vs (frs 0) (fun k => listed.getD k false) ops.size).put (l.getD i badOp).dst (vs i)) (Hs (hiOf l (fun k => listed.getD k false || k == i) ops.size)) a' w' →
            wpAny P .any ops Q fuel (listed.setIfInBounds i true) a' w' := fun κ' a' w' h0' hs' => by
          have hfun : (fun k => (listed.setIfInBounds i true).getD k false) = fun k => listed.getD k false || k == i := funext fun k => getD_setB listed i k hil
          refine ih _ κ' a' w' (by simpa using hsz) (fun j hj hjS k hk => ?_) h0' ?_ ?_
          · rw [getD_setB listed i _ hil] at hjS ⊢
            simp only [Bool.or_eq_true, beq_iff_eq] at hjS ⊢
            rcases hjS with hjS | rfl
            · exact .inl (hcl j hj hjS k hk)
            · exact .inl (hb k hk)
          · rw [hfun, c.next hi' hiS]; exact hs'
          · have hlt : ((List.range ops.size).filter fun k => !(listed.setIfInBounds i true).getD k false).length < ((List.range ops.size).filter fun k => !listed.getD k false).length := by
              have hsub : (List.range ops.size).filter (fun k => !(listed.setIfInBounds i true).getD k false) = ((List.range ops.size).filter fun k => !listed.getD k false).filter fun k => !(k == i) := by
                rw [List.filter_filter]
                refine List.filter_congr fun k _ => ?_
                rw [getD_setB listed i k hil]
                cases listed.getD k false <;> cases (k == i) <;> rfl
              rw [hsub]
              refine List.length_filter_lt_length_iff_exists.2 ⟨i, ?_, by simp⟩
              simp only [List.mem_filter, List.mem_range]
              exact ⟨hi', by rw [hiS]; rfl⟩
            omega
        obtain ⟨hstep, -⟩ := hR i _ hg?
        have hbad : compO P nt tok ops o ≠ badOp := fun e => by
          rw [e] at hstep
          simp only [StepG, badOp, StepD, EntersR, Arg.ev, I.cls] at hstep
          rcases hstep with ⟨h, -⟩ | ⟨h, -⟩
          · exact h
          · exact h rfl
        obtain ⟨g, ii, hgu, hci, hdst, hcomp⟩ := (compO_spec (P := P) (nt := nt) (tok := tok) (ops := ops) (o := o)).resolve_left hbad
        rw [hcomp] at hstep hgd
        have hread : ∀ s, s ∈ (l.getD i badOp).i.slots → frOf l vs (frs 0) (fun k => listed.getD k false) ops.size s = frs i s := fun s hs => hslot s (slots_reads hs)
        rw [hgd] at hread
        simp only at hread
        -- it is carried out
        have doit : StepD P (frs i) (Hs i) ii (vs i) (Hs (i + 1)) → o.wp P a w (wpAny P .any ops Q fuel (listed.setIfInBounds i true)) Q := by
          intro hsd
          rcases hsd with ⟨hent, hH⟩ | ⟨hcls, hst⟩
          · -- a call
            have h3 : ii.cls = 3 := by cases ii <;> first | rfl | exact hent.elim
            obtain ⟨-, hHi⟩ := c.exact hR hi' hiS hb (by rw [hgd]; simp only [h3]; rintro q (rfl | rfl) <;> exact ⟨rfl, rfl⟩)
            have hent' := (enters_congr hread).2 hent
            obtain ⟨f, us, as, hrun, hl', hv, hcall⟩ := enters_sound hci hs hent'
            unfold Oper.wp
            rw [hrun, Oper.upon_enter]
            rw [← hHi] at hcall
            refine (hcall κ w us hs.hr hl' hv).mono ?_
            rintro e w' ⟨v, κ', x, H', rfl, k1, k2, k3, rfl, rfl⟩
            refine follow κ' _ w' (h0.trans k1) ?_
            rw [Ctx.hi_quiet (by unfold isEff; rw [hgd]; simp only [h3]; rfl), hgd]
            exact hs.put k1 k2 hdst k3
          · have hnext : stepI (frOf l vs (frs 0) (fun k => listed.getD k false) ops.size) (Hs (hiOf l (fun k => listed.getD k false) ops.size)) ii = some (vs i, Hs (hiOf l (fun k => listed.getD k false || k == i) ops.size)) := by
              have hcong : stepI (frOf l vs (frs 0) (fun k => listed.getD k false) ops.size) (Hs i) ii = some (vs i, Hs (i + 1)) := by rw [stepI_congr hread]; exact hst
              rcases cls_le ii with h4 | h4 | h4 | h4 | h4
              · rw [Ctx.hi_quiet (by unfold isEff; rw [hgd]; simp only [h4]; rfl)]
                exact (stepI_cls0 h4 hcong).2 _
              · rw [Ctx.hi_quiet (by unfold isEff; rw [hgd]; simp only [h4]; rfl)]
                have := c.load hR hi' hiS hb (by rw [hgd]; exact h4) (fr := frOf l vs (frs 0) (fun k => listed.getD k false) ops.size) (v := vs i) (H' := Hs (i + 1)) (by rw [hgd]; exact hcong) (fun s _ j hj => (hs.vr s).at_lt hs.hr.dom hj)
                rw [hgd] at this
                exact this
              · obtain ⟨-, hHi⟩ := c.exact hR hi' hiS hb (by rw [hgd]; simp only [h4]; rintro q (rfl | rfl) <;> exact ⟨rfl, rfl⟩)
                rw [hHi, c.eff hi' hiS (by unfold isEff; rw [hgd]; simp only [h4]; rfl)]
                exact hcong
              · exact absurd h4 hcls
              · obtain ⟨-, hHi⟩ := c.exact hR hi' hiS hb (by rw [hgd]; simp only [h4]; rintro q (rfl | rfl) <;> exact ⟨rfl, rfl⟩)
                rw [hHi, c.eff hi' hiS (by unfold isEff; rw [hgd]; simp only [h4]; rfl)]
                exact hcong
            obtain ⟨u, w', κ', hrun, k1, k2, k3⟩ := step_sound hci hs hnext
            have hfin' := follow κ' (a.put o.dst u) w' (h0.trans k1) (by rw [hgd]; exact hs.put k1 k2 hdst k3)
            unfold Oper.wp
            rcases hrun with hrun | ⟨hrun, rfl⟩
            · rw [hrun, Oper.upon_value]; exact hfin'
            · rw [hrun, Oper.upon_skip]; exact hfin'
        unfold wpOp
        simp only [ho]
        cases g with
        | none =>
          rw [if_pos (wanted_none hgu _)]
          exact .inl (doit hstep)
        | some sb =>
          obtain ⟨s, b⟩ := sb
          have hsl := hslot s (by rw [hgd]; simp [IOp.reads])
          rw [wanted_some hgu]
          have hgs : ∀ T F : Prop, (frs i s = .d (.bool b) → T) → ((frs i s = .d (.bool (!b)) ∨ frs i s = .tup []) → F) → (frs i s = .d (.bool b) ∨ (frs i s = .d (.bool (!b)) ∨ frs i s = .tup [])) →
              (tmpIs a.tmps s b = true ∧ T) ∨ (tmpIs a.tmps s b = false ∧ F) := fun T F hT hF hor => by
            have := guard_sound hs (s := s) (b := b) (T := fun _ => T) (F := fun _ => F) (by
              rw [hsl]
              rcases hor with e | e | e
              · rw [e]; simp only [AGd, if_true]; exact hT e
              · rw [e]; simp only [AGd]; rw [if_neg (by cases b <;> simp)]; exact hF (.inl e)
              · rw [e]; exact hF (.inr e))
            exact this
          rcases hstep with ⟨e, hsd⟩ | ⟨e, hv, hH⟩
          · rcases hgs True False (fun _ => trivial) (fun hh => by rw [e] at hh; rcases hh with hh | hh; (cases b <;> cases hh); cases hh) (.inl e) with ⟨h5, -⟩ | ⟨-, h5⟩
            · rw [h5]; simp only [if_true]; exact .inl (doit hsd)
            · exact h5.elim
          · rcases hgs False True (fun hh => by rcases e with e | e; (rw [e] at hh; cases b <;> cases hh); (rw [e] at hh; cases hh)) (fun _ => trivial) (.inr e) with ⟨-, h5⟩ | ⟨h5, -⟩
            · exact h5.elim
            · rw [h5]
              simp only [Bool.false_eq_true, if_false]
              refine follow κ _ w h0 ?_
              have hHn : Hs (hiOf l (fun k => listed.getD k false || k == i) ops.size) = Hs (hiOf l (fun k => listed.getD k false) ops.size) := by
                by_cases he : isEff l i = true
                · have h24 : (l.getD i badOp).i.cls = 2 ∨ (l.getD i badOp).i.cls = 4 := by unfold isEff at he; simpa using he
                  obtain ⟨-, hHi⟩ := c.exact hR hi' hiS hb (by rcases h24 with e | e <;> rw [e] <;> rintro q (rfl | rfl) <;> exact ⟨rfl, rfl⟩)
                  rw [hHi, c.eff hi' hiS he, hH]
                · rw [Ctx.hi_quiet (by simpa using he)]
              rw [hHn, hgd, hv]
              exact hs.put (Zam.K.le_refl κ) hs.hr hdst (.tup [] [] rfl (by simp))
  refine main ops.size _ κ1 a w (by simp) ?_ h01 ?_ ?_
  · intro j _ hj; rw [getD_replicate] at hj; cases hj
  · have e1 : ∀ n, frOf l vs (frs 0) (fun k => (Array.replicate ops.size false).getD k false) n = frs 0 := fun n => by
      induction n with
      | zero => rfl
      | succ n ih => unfold frOf; rw [if_neg (by rw [getD_replicate]; simp)]; exact ih
    have e2 : ∀ n, hiOf l (fun k => (Array.replicate ops.size false).getD k false) n = 0 := fun n => by
      induction n with
      | zero => rfl
      | succ n ih => unfold hiOf; rw [if_neg (by rw [getD_replicate]; simp)]; exact ih
    rw [e1, e2]; exact hs1
  · exact Nat.le_trans (List.length_filter_le _ _) (by simp)

end Go.Zam
