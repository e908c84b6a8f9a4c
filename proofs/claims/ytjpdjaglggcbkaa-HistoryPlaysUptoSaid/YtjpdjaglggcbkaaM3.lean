/-
  Texts of one proof, one behind the other: An abstract machine over the model, fourteenth part: a region whose order is open comes to what it comes to in the order of the text (the proof). No program in sight. No condition. An abstract machine over the model, fifteenth part: AWp is sound; a function's contract out of AWp. No program in sight. No condition. An abstract machine over the model, sixteenth part: rules for running its code by rewriting. No program in sight. No condition. What follows a step stands behind a tag, so that the rewriting leaves it alone till the step is done. An abstract machine over the model, seventeenth part: from the reading of a call's arguments to pure data. No program in sight. No condition. An abstract machine over the model, eighteenth part: from a call of the machine to what a law's row asks. No program in sight. No condition. An abstract machine over the model, nineteenth part: strings.Builder on the machine, over any program. No condition. An abstract machine over the model, twentieth part: an open slice handed on as a plain one. No condition. An abstract machine over the model, twenty-first part: arrays that are written, given back as plain slices. No condition. Stable sorting of lists: the sorted list that keeps what is alike in its order is one; merging; insertion. No program in sight. No condition. An abstract machine over the model, twenty-third part: the library's stable sorting, as code of the machine, over any element's size. No condition. An abstract machine over the model, twenty-fourth part: swapRange and rotate of the library's stable sorting: what they compute. Lengths are bounded. An abstract machine over the model, twenty-fifth part: the library's insertion sort: what it computes. Lengths are bounded.
-/
import Derived.Test.YtjpdjaglggcbkaaM2
import Derived.Tactics
import Derived.DataReads
import Derived.ChangeArms
import Derived.ChangeSame
import Derived.Carry
import Derived.OpenShut
import Derived.Shelf.Strings.Builder1
namespace Go.Zam
open Go.RowKit (Below)

/-! what must stand before what -/

def inB (acc : Array Nat) (es : Array Edge) : Nat := es.foldl (fun s e => if Region.binds .any e then s ||| 2 ^ e.on ||| acc.getD e.on 0 else s) 0

theorem inB_spec (acc : Array Nat) (es : Array Edge) (k : Nat) (h : (inB acc es).testBit k = true) : ∃ e ∈ es, Region.binds .any e = true ∧ (e.on = k ∨ (acc.getD e.on 0).testBit k = true) := by
  have key : ∀ (l : List Edge) (s : Nat), (l.foldl (fun s e => if Region.binds .any e then s ||| 2 ^ e.on ||| acc.getD e.on 0 else s) s).testBit k = true →
      s.testBit k = true ∨ ∃ e ∈ l, Region.binds .any e = true ∧ (e.on = k ∨ (acc.getD e.on 0).testBit k = true) := by
    intro l
    induction l with
    | nil => intro s h; exact .inl h
    | cons e l ih =>
      intro s h
      rw [List.foldl_cons] at h
      rcases ih _ h with h1 | ⟨e', he', h2⟩
      · split at h1
        · rename_i hb
          simp only [Nat.testBit_or, Bool.or_eq_true, Nat.testBit_two_pow, decide_eq_true_eq] at h1
          rcases h1 with (h1 | h1) | h1
          · exact .inl h1
          · exact .inr ⟨e, by simp, hb, .inl h1⟩
          · exact .inr ⟨e, by simp, hb, .inr h1⟩
        · exact .inl h1
      · exact .inr ⟨e', by simp [he'], h2⟩
  unfold inB at h
  rw [← Array.foldl_toList] at h
  rcases key _ _ h with h1 | ⟨e, he, h2⟩
  · simp at h1
  · exact ⟨e, by simpa using he, h2⟩

theorem before_go : ∀ (l : List Oper) (acc : Array Nat), (∀ i, i < acc.size → (l.foldl (fun acc o => acc.push (inB acc o.after)) acc).getD i 0 = acc.getD i 0) ∧
    ∀ (j : Nat) (o : Oper), l[j]? = some o → ∃ accj : Array Nat, (∀ i, accj.getD i 0 = (l.foldl (fun acc o => acc.push (inB acc o.after)) acc).getD i 0 ∨ accj.getD i 0 = 0) ∧
      (l.foldl (fun acc o => acc.push (inB acc o.after)) acc).getD (acc.size + j) 0 = inB accj o.after := by
  intro l
  induction l with
  | nil => intro acc; exact ⟨fun _ _ => rfl, by simp⟩
  | cons o l ih =>
    intro acc
    obtain ⟨h1, h2⟩ := ih (acc.push (inB acc o.after))
    simp only [List.foldl_cons]
    have hpush : ∀ i, i < acc.size → (acc.push (inB acc o.after)).getD i 0 = acc.getD i 0 := fun i hi => by simp [Array.getElem?_push, Nat.ne_of_lt hi]
    refine ⟨fun i hi => by rw [h1 i (by simp; omega), hpush i hi], fun j q hq => ?_⟩
    cases j with
    | zero =>
      simp at hq
      subst hq
      refine ⟨acc, fun i => ?_, ?_⟩
      · by_cases hi : i < acc.size
        · left; rw [h1 i (by simp; omega), hpush i hi]
        · right; simp [Array.getElem?_eq_none (Nat.le_of_not_lt hi)]
      · rw [Nat.add_zero, h1 acc.size (by simp)]; simp
    | succ j =>
      obtain ⟨accj, a1, a2⟩ := h2 j q (by simpa using hq)
      refine ⟨accj, a1, ?_⟩
      rw [← a2]; simp only [Array.size_push]; congr 1; omega

theorem before_spec {ops : Array Oper} {j k : Nat} {o : Oper} (ho : ops[j]? = some o) (h : ((Region.before ops).getD j 0).testBit k = true) :
    ∃ e ∈ o.after, Region.binds .any e = true ∧ (e.on = k ∨ ((Region.before ops).getD e.on 0).testBit k = true) := by
  have hb : Region.before ops = ops.toList.foldl (fun acc o => acc.push (inB acc o.after)) #[] := by
    unfold Region.before
    rw [← Array.foldl_toList]
    rfl
  obtain ⟨accj, h1, h2⟩ := (before_go ops.toList #[]).2 j o (by simpa using ho)
  simp only [List.size_toArray, List.length_nil, Nat.zero_add] at h2
  rw [hb, h2] at h
  obtain ⟨e, he, h3, h4⟩ := inB_spec _ _ _ h
  refine ⟨e, he, h3, h4.imp id fun h5 => ?_⟩
  rcases h1 e.on with h6 | h6
  · rw [hb, ← h6]; exact h5
  · rw [h6] at h5; simp at h5

/-- A-version: what succeeds in the lesser memory -/
theorem stepI_cls1' {fr : Fr} {H H' : Hp} {i : I} {v : A} (hc : i.cls = 1) {vv : Bool} (hvv : i.vread = true → vv = true) (h : stepI fr H i = some (v, H')) : ∀ (H2 : Hp), Alike vv H.length H H2 → stepI fr H2 i = some (v, H2) := by
  have lt : ∀ {j : Nat} {x : Ob}, H[j]? = some x → j < H.length := fun h => (List.getElem?_eq_some_iff.1 h).1
  cases i <;> first | (simp only [I.cls] at hc; exact absurd hc (by decide)) | skip
  case load n g x =>
    simp only [stepI, Option.map_eq_some_iff, Prod.mk.injEq] at h
    obtain ⟨cs, h1, h2, h3⟩ := h
    intro H2 ha
    have : ldA H2 n (x.ev fr) = some cs := by
      generalize x.ev fr = p at h1
      unfold ldA at h1
      split at h1
      · split at h1
        · rename_i e
          simp only [ldA, (ha _ (lt e) _ rfl).1 e]; exact h1
        · cases h1
      · split at h1
        · rename_i e
          simp only [ldA, (ha _ (lt e) _ rfl).1 e]; exact h1
        · cases h1
      · exact h1
      · cases h1
    simp only [stepI, this, Option.map_some, Option.some.injEq, Prod.mk.injEq]
    exact ⟨h2, trivial⟩
  case iaddr n x y =>
    simp only [stepI, Option.map_eq_some_iff, Prod.mk.injEq] at h
    obtain ⟨u, h1, h2, h3⟩ := h
    intro H2 ha
    have : iaddrA H2 n (x.ev fr) (y.ev fr) = some u := by
      generalize x.ev fr = p at h1
      generalize y.ev fr = q at h1
      unfold iaddrA at h1
      split at h1
      · exact h1
      · exact h1
      · split at h1
        · rename_i e
          simp only [iaddrA, (ha _ (lt e) _ rfl).1 e]; exact h1
        · cases h1
      · cases h1
    simp only [stepI, this, Option.map_some, Option.some.injEq, Prod.mk.injEq]
    exact ⟨h2, trivial⟩
  case iaddrV n x y =>
    obtain rfl : vv = true := hvv rfl
    simp only [stepI, Option.map_eq_some_iff, Prod.mk.injEq] at h
    obtain ⟨u, h1, h2, h3⟩ := h
    intro H2 ha
    have : iaddrV H2 n (x.ev fr) (y.ev fr) = some u := by
      generalize x.ev fr = p at h1 ⊢
      generalize y.ev fr = q at h1 ⊢
      unfold iaddrV at h1
      split at h1
      · split at h1
        · rename_i e
          simp only [iaddrV, (ha _ (lt e) _ rfl).1 e]; exact h1
        · rename_i e
          simp only [iaddrV, (ha _ (lt e) _ rfl).1 e]; exact h1
        · cases h1
      · split at h1
        · rename_i e
          simp only [iaddrV, (ha _ (lt e) _ rfl).1 e]; exact h1
        · rename_i e
          simp only [iaddrV, (ha _ (lt e) _ rfl).1 e]; exact h1
        · cases h1
      · cases h1
    simp only [stepI, this, Option.map_some, Option.some.injEq, Prod.mk.injEq]
    exact ⟨h2, trivial⟩
  case loadV n g x =>
    obtain rfl : vv = true := hvv rfl
    simp only [stepI, Option.map_eq_some_iff, Prod.mk.injEq] at h
    obtain ⟨cs, h1, h2, h3⟩ := h
    intro H2 ha
    have : ldV H2 n (x.ev fr) = some cs := by
      generalize x.ev fr = p at h1 ⊢
      unfold ldV at h1
      split at h1
      · split at h1
        · rename_i e
          simp only [ldV, (ha _ (lt e) _ rfl).1 e]; exact h1
        · rename_i e
          simp only [ldV, (ha _ (lt e) _ rfl).1 e]; exact h1
        · cases h1
      · cases h1
    simp only [stepI, this, Option.map_some, Option.some.injEq, Prod.mk.injEq]
    exact ⟨h2, trivial⟩
  case cutL n x y =>
    obtain rfl : vv = true := hvv rfl
    simp only [stepI, Option.map_eq_some_iff, Prod.mk.injEq] at h
    obtain ⟨u, h1, h2, h3⟩ := h
    intro H2 ha
    have : cutLA H2 n (x.ev fr) (y.ev fr) = some u := by
      have hz : ∀ i, vecSz H[i]? n = true → vecSz H2[i]? n = true := fun i hz => by
        unfold vecSz at hz
        split at hz
        · rename_i e; rw [(ha _ (lt e) _ rfl).1 e]; exact hz
        · rename_i e; rw [(ha _ (lt e) _ rfl).1 e]; exact hz
        · cases hz
      generalize x.ev fr = p at h1 ⊢
      generalize y.ev fr = q at h1 ⊢
      unfold cutLA at h1
      split at h1
      · split at h1
        · rename_i hc
          simp only [cutLA]; rw [if_pos ⟨hz _ hc.1, hc.2⟩]; exact h1
        · cases h1
      · split at h1
        · rename_i hc
          simp only [cutLA]; rw [if_pos ⟨hz _ hc.1, hc.2⟩]; exact h1
        · cases h1
      · cases h1
    simp only [stepI, this, Option.map_some, Option.some.injEq, Prod.mk.injEq]
    exact ⟨h2, trivial⟩
  case lkp ok key ag z x y =>
    intro H2 ha
    simp only [stepI] at h
    split at h
    · rename_i kd i e1 e2
      split at h
      · rename_i l hH
        split at h
        · rename_i hok
          split at h <;> (cases h; have := (ha _ (lt hH) _ rfl).1 hH; simp only [stepI, e1, e2, this, hok, if_true]; simp only [*])
        · cases h
      · cases h
    · rename_i kd e1 e2
      split at h
      · rename_i hok
        cases h
        simp only [stepI, e1, e2, hok, if_true]
      · cases h
    · cases h

section run
variable {P : Program} {l : List IOp} {frs : Nat → Fr} {Hs : Nat → Hp} {vs : Nat → A}

def frOf (l : List IOp) (vs : Nat → A) (fr : Fr) (S : Nat → Bool) : Nat → Fr
  | 0 => fr
  | k + 1 => if S k then (frOf l vs fr S k).put (l.getD k badOp).dst (vs k) else frOf l vs fr S k

def isEff (l : List IOp) (k : Nat) : Bool := (l.getD k badOp).i.cls == 2 || (l.getD k badOp).i.cls == 4

def hiOf (l : List IOp) (S : Nat → Bool) : Nat → Nat
  | 0 => 0
  | k + 1 => if S k && isEff l k then k + 1 else hiOf l S k

theorem hiOf_le (S : Nat → Bool) : ∀ n, hiOf l S n ≤ n
  | 0 => Nat.le_refl _
  | k + 1 => by unfold hiOf; split; exact Nat.le_refl _; exact Nat.le_succ_of_le (hiOf_le S k)

theorem hiOf_ge (S : Nat → Bool) : ∀ (n k : Nat), k < n → S k = true → isEff l k = true → k + 1 ≤ hiOf l S n
  | 0, k, h, _, _ => by omega
  | n + 1, k, h, h1, h2 => by
    unfold hiOf
    by_cases hkn : k = n
    · subst hkn; rw [if_pos (by simp [h1, h2])]; exact Nat.le_refl _
    · split
      · omega
      · exact hiOf_ge S n k (by omega) h1 h2

theorem hiOf_in (S : Nat → Bool) : ∀ n, hiOf l S n = 0 ∨ ∃ k, k < n ∧ hiOf l S n = k + 1 ∧ S k = true ∧ isEff l k = true
  | 0 => .inl rfl
  | n + 1 => by
    unfold hiOf
    split
    · rename_i h; simp only [Bool.and_eq_true] at h; exact .inr ⟨n, by omega, rfl, h.1, h.2⟩
    · rcases hiOf_in S n with h | ⟨k, h1, h2, h3⟩
      · exact .inl h
      · exact .inr ⟨k, by omega, h2, h3⟩

theorem put_ne {fr : Fr} {d : Option Nat} {v : A} {s : Nat} (h : d ≠ some s) : (fr.put d v) s = fr s := by
  cases d with
  | none => rfl
  | some d => simp only [Fr.put, Fr.set]; rw [if_neg (fun e => h (by rw [e]))]

theorem put_eq {fr : Fr} {v : A} {s : Nat} : (fr.put (some s) v) s = v := by simp [Fr.put, Fr.set]

theorem getD_of {k : Nat} {o : IOp} (h : l[k]? = some o) : l.getD k badOp = o := by simp [List.getD, h]

/-- the run, step by step -/
def Runs (P : Program) (l : List IOp) (frs : Nat → Fr) (Hs : Nat → Hp) (vs : Nat → A) : Prop :=
  ∀ (k : Nat) (o : IOp), l[k]? = some o → StepG P (frs k) (Hs k) o (vs k) (Hs (k + 1)) ∧ frs (k + 1) = (frs k).put o.dst (vs k)

theorem Runs.stepD {hr : Runs P l frs Hs vs} {k : Nat} {o : IOp} (ho : l[k]? = some o) : StepD P (frs k) (Hs k) o.i (vs k) (Hs (k + 1)) ∨ Hs (k + 1) = Hs k := by
  have h := (hr k o ho).1
  unfold StepG at h
  split at h
  · exact .inl h
  · rcases h with ⟨-, h⟩ | ⟨-, -, h⟩
    · exact .inl h
    · exact .inr h

theorem Runs.quiet (hr : Runs P l frs Hs vs) {k : Nat} (hk : k < l.length) (he : isEff l k = false) : Hs (k + 1) = Hs k := by
  have ho := List.getElem?_eq_getElem hk
  unfold isEff at he
  rw [getD_of ho] at he
  simp only [Bool.or_eq_false_iff, beq_eq_false_iff_ne] at he
  rcases hr.stepD ho with h | h
  · rcases h with ⟨-, h | h⟩ | ⟨hc, h⟩
    · exact absurd h he.2
    · exact h
    · rcases cls_le (l[k]).i with h0 | h0 | h0 | h0 | h0
      · exact (stepI_cls0 h0 h).1
      · exact (stepI_cls1 h0 (vv := true) (fun _ => rfl) h).1
      · exact absurd h0 he.1
      · exact absurd h0 hc
      · exact absurd h0 he.2
  · exact h

theorem Runs.same (hr : Runs P l frs Hs vs) {a : Nat} : ∀ (d : Nat), a + d ≤ l.length → (∀ k, a ≤ k → k < a + d → isEff l k = false) → Hs (a + d) = Hs a
  | 0, _, _ => rfl
  | d + 1, h, he => by
    rw [← Nat.add_assoc, hr.quiet (by omega) (he (a + d) (by omega) (by omega))]
    exact hr.same d (by omega) fun k h1 h2 => he k h1 (by omega)

theorem Runs.alike (hr : Runs P l frs Hs vs) {vv : Bool} (hva : vv = true → ∀ k, (l.getD k badOp).i.vapp = false) {a : Nat} : ∀ (d : Nat), a + d ≤ l.length → (∀ k, a ≤ k → k < a + d → (l.getD k badOp).i.cls ≠ 4) → (Hs a).length ≤ (Hs (a + d)).length ∧ Alike vv (Hs a).length (Hs a) (Hs (a + d))
  | 0, _, _ => ⟨Nat.le_refl _, .refl _ _ _⟩
  | d + 1, h, he => by
    obtain ⟨h1, h2⟩ := hr.alike hva d (by omega) fun k h1 h2 => he k h1 (by omega)
    rw [← Nat.add_assoc]
    have hk : a + d < l.length := by omega
    have ho := List.getElem?_eq_getElem hk
    have hc4 := he (a + d) (by omega) (by omega)
    have step : (Hs (a + d)).length ≤ (Hs (a + d + 1)).length ∧ Alike vv (Hs (a + d)).length (Hs (a + d)) (Hs (a + d + 1)) := by
      by_cases hE : isEff l (a + d) = true
      · rw [getD_of ho] at hc4
        unfold isEff at hE
        rw [getD_of ho] at hE
        simp only [Bool.or_eq_true, beq_iff_eq] at hE
        have hc2 := hE.resolve_right hc4
        rcases hr.stepD ho with hs | hs
        · rcases hs with ⟨-, hs | hs⟩ | ⟨-, hs⟩
          · rw [hc2] at hs; cases hs
          · rw [hs]; exact ⟨Nat.le_refl _, .refl _ _ _⟩
          · exact stepI_cls2 hc2 (fun hv => by
              cases vv with
              | false => rfl
              | true => have := hva rfl (a + d); rw [getD_of ho, hv] at this; cases this) hs
        · rw [hs]; exact ⟨Nat.le_refl _, .refl _ _ _⟩
      · rw [hr.quiet hk (by simpa using hE)]; exact ⟨Nat.le_refl _, .refl _ _ _⟩
    exact ⟨Nat.le_trans h1 step.1, h2.trans (step.2.mono h1)⟩

end run

theorem VR.at_lt {κ : K} {n : Nat} (hd : ∀ i, n ≤ i → κ.β i = .none) {v : Value} {a : A} (h : VR κ v a) {j : Nat} (hj : a.at? = some j) : j < n := by
  have hlt : ∀ i, κ.β i ≠ .none → i < n := fun i hi => Nat.lt_of_not_le fun hle => hi (hd i hle)
  cases h with
  | msl i off len b sz o cap hb h1 h2 h3 => simp only [A.at?, Option.some.injEq] at hj; subst hj; exact hlt _ (by rcases hb with ⟨_, hb⟩ | hb <;> rw [hb] <;> simp)
  | ptr i off b hb => simp only [A.at?, Option.some.injEq] at hj; subst hj; exact hlt _ (by rw [hb]; simp)
  | vsl i k len ad cap _ hf => simp only [A.at?, Option.some.injEq] at hj; subst hj; exact hlt _ (by intro h0; rw [h0] at hf; exact hf)
  | vso i k off len ad cap _ hf => simp only [A.at?, Option.some.injEq] at hj; subst hj; exact hlt _ (by intro h0; rw [h0] at hf; exact hf)
  | vptr i k idx off b o hf => simp only [A.at?, Option.some.injEq] at hj; subst hj; exact hlt _ (by intro h0; rw [h0] at hf; exact hf)
  | map i b hb => simp only [A.at?, Option.some.injEq] at hj; subst hj; exact hlt _ (by rw [hb]; simp)
  | aptr i idx off b sz hb => simp only [A.at?, Option.some.injEq] at hj; subst hj; exact hlt _ (by rcases hb with ⟨_, hb⟩ | hb <;> rw [hb] <;> simp)
  | _ => simp [A.at?] at hj

theorem getD_replicate (n k : Nat) : (Array.replicate n false).getD k false = false := by
  rw [Array.getD_eq_getD_getElem?]
  by_cases h : k < n
  · simp [h]
  · simp [h]

theorem getD_setB (listed : Array Bool) (i k : Nat) (hi : i < listed.size) : (listed.setIfInBounds i true).getD k false = (listed.getD k false || k == i) := by
  rw [Array.getD_eq_getD_getElem?, Array.getD_eq_getD_getElem?]
  by_cases h : i = k
  · subst h; simp [hi]
  · rw [Array.getElem?_setIfInBounds_ne h]
    have : (k == i) = false := by simpa using fun e => h e.symm
    simp [this]

section main
variable {P : Program} {κ0 : K} {nt : NT} {tok : List Nat} {ops : Array Oper} {l : List IOp} {frs : Nat → Fr} {Hs : Nat → Hp} {vs : Nat → A} {S : Nat → Bool}

/-- the checks, and what has been done so far -/
structure Ctx (ops : Array Oper) (l : List IOp) (S : Nat → Bool) : Prop where
  len : l.length = ops.size
  tied : ∀ i j, i < j → j < ops.size → Go.Zam.tied (l.getD i badOp) (l.getD j badOp) = true → ((Region.before ops).getD j 0).testBit i = true
  va : (l.any fun o => o.i.vread) = true → ∀ k, (l.getD k badOp).i.vapp = false
  cl : ∀ j, j < ops.size → S j = true → ∀ k, ((Region.before ops).getD j 0).testBit k = true → S k = true

theorem tied_read {a b : IOp} {s : Nat} (h : a.dst = some s) (h2 : s ∈ b.reads) : tied a b = true := by
  simp [tied, h, h2]
theorem tied_read' {a b : IOp} {s : Nat} (h : b.dst = some s) (h2 : s ∈ a.reads) : tied a b = true := by
  simp [tied, h, h2]
theorem tied_dst {a b : IOp} {s : Nat} (h : a.dst = some s) (h2 : b.dst = some s) : tied a b = true := by
  simp [tied, h, h2]
theorem tied_clash {a b : IOp} (h : clash a.i.cls b.i.cls = true) : tied a b = true := by
  simp [tied, h]

/-- what an operation reads when it is ready is what it reads in the text's order -/
theorem Ctx.slot (c : Ctx ops l S) (hr : Runs P l frs Hs vs) {i : Nat} (hi : i < ops.size) (hiS : S i = false) (hb : ∀ k, ((Region.before ops).getD i 0).testBit k = true → S k = true) {s : Nat} (hs : s ∈ (l.getD i badOp).reads) :
    ∀ m, m ≤ ops.size → frOf l vs (frs 0) S m s = frs (min m i) s := by
  intro m
  induction m with
  | zero => intro _; simp [frOf]
  | succ m ih =>
    intro hm
    have ih' := ih (by omega)
    have ho := List.getElem?_eq_getElem (l := l) (i := m) (by rw [c.len]; omega)
    have hstep := (hr m _ ho).2
    by_cases hmi : m < i
    · rw [Nat.min_eq_left (by omega), hstep]
      rw [Nat.min_eq_left (by omega)] at ih'
      by_cases hd : (l[m]'(by rw [c.len]; omega)).dst = some s
      · have hS := hb m (c.tied m i hmi hi (tied_read (by rw [getD_of ho]; exact hd) hs))
        unfold frOf
        rw [if_pos hS, getD_of ho, hd, put_eq, put_eq]
      · rw [put_ne hd]
        unfold frOf
        split
        · rw [getD_of ho, put_ne hd]; exact ih'
        · exact ih'
    · rw [Nat.min_eq_right (by omega)]
      rw [Nat.min_eq_right (by omega)] at ih'
      unfold frOf
      split
      · rename_i hS
        rw [getD_of ho]
        by_cases hd : (l[m]'(by rw [c.len]; omega)).dst = some s
        · exfalso
          have hne : m ≠ i := fun e => by subst e; rw [hiS] at hS; cases hS
          have := c.cl m (by omega) hS i (c.tied i m (by omega) (by omega) (tied_read' (by rw [getD_of ho]; exact hd) hs))
          rw [hiS] at this; cases this
        · rw [put_ne hd]; exact ih'
      · exact ih'

/-- one more is done: the slots -/
theorem Ctx.next (c : Ctx ops l S) {i : Nat} (hi : i < ops.size) (hiS : S i = false) (fr : Fr) :
    frOf l vs fr (fun k => S k || k == i) ops.size = (frOf l vs fr S ops.size).put (l.getD i badOp).dst (vs i) := by
  funext s
  have lo : ∀ m, m ≤ i → frOf l vs fr (fun k => S k || k == i) m s = frOf l vs fr S m s := by
    intro m
    induction m with
    | zero => intro _; rfl
    | succ m ih =>
      intro hm
      unfold frOf
      have : (S m || m == i) = S m := by have : (m == i) = false := by simp; omega
                                         rw [this, Bool.or_false]
      simp only [this]
      split
      · by_cases hd : (l.getD m badOp).dst = some s
        · rw [hd, put_eq, put_eq]
        · rw [put_ne hd, put_ne hd]; exact ih (by omega)
      · exact ih (by omega)
  by_cases hd : (l.getD i badOp).dst = some s
  · rw [hd, put_eq]
    have hi' : ∀ m, i < m → m ≤ ops.size → frOf l vs fr (fun k => S k || k == i) m s = vs i := by
      intro m
      induction m with
      | zero => intro h; omega
      | succ m ih =>
        intro h1 h2
        unfold frOf
        by_cases hmi : m = i
        · subst hmi; rw [if_pos (by simp), hd, put_eq]
        · have : (S m || m == i) = S m := by have : (m == i) = false := by simpa using hmi
                                             rw [this, Bool.or_false]
          simp only [this]
          split
          · rename_i hS
            have hdm : (l.getD m badOp).dst ≠ some s := fun e => by
              have := c.cl m (by omega) hS i (c.tied i m (by omega) (by omega) (tied_dst hd e))
              rw [hiS] at this; cases this
            rw [put_ne hdm]; exact ih (by omega) (by omega)
          · exact ih (by omega) (by omega)
    exact hi' _ hi (Nat.le_refl _)
  · rw [put_ne hd]
    have : ∀ m, frOf l vs fr (fun k => S k || k == i) m s = frOf l vs fr S m s := by
      intro m
      induction m with
      | zero => rfl
      | succ m ih =>
        unfold frOf
        by_cases hmi : m = i
        · subst hmi
          rw [if_pos (by simp), if_neg (by rw [hiS]; simp), put_ne hd]; exact ih
        · have : (S m || m == i) = S m := by have : (m == i) = false := by simpa using hmi
                                             rw [this, Bool.or_false]
          simp only [this]
          split
          · by_cases hdm : (l.getD m badOp).dst = some s
            · rw [hdm, put_eq, put_eq]
            · rw [put_ne hdm, put_ne hdm]; exact ih
          · exact ih
    exact this _

theorem Ctx.hi_quiet {i : Nat} (he : isEff l i = false) : ∀ n, hiOf l (fun k => S k || k == i) n = hiOf l S n
  | 0 => rfl
  | n + 1 => by
    unfold hiOf
    rw [Ctx.hi_quiet he n]
    by_cases hni : n = i
    · subst hni; simp [he]
    · have : (n == i) = false := by simpa using hni
      simp only [this, Bool.or_false]

/-- an operation that must find memory as in the text's order -/
theorem Ctx.exact (c : Ctx ops l S) (hr : Runs P l frs Hs vs) {i : Nat} (hi : i < ops.size) (hiS : S i = false) (hb : ∀ k, ((Region.before ops).getD i 0).testBit k = true → S k = true)
    (hc : ∀ q, (q = 2 ∨ q = 4) → clash q (l.getD i badOp).i.cls = true ∧ clash (l.getD i badOp).i.cls q = true) : hiOf l S ops.size ≤ i ∧ Hs (hiOf l S ops.size) = Hs i := by
  have heff : ∀ k, isEff l k = true → (l.getD k badOp).i.cls = 2 ∨ (l.getD k badOp).i.cls = 4 := fun k hk => by
    unfold isEff at hk; simpa using hk
  have hle : hiOf l S ops.size ≤ i := by
    rcases hiOf_in (l := l) S ops.size with h | ⟨k, h1, h2, h3, h4⟩
    · omega
    · rw [h2]
      refine Nat.lt_of_not_le fun hle => ?_
      have hne : i ≠ k := fun e => by subst e; rw [hiS] at h3; cases h3
      have := c.cl k h1 h3 i (c.tied i k (by omega) h1 (tied_clash (hc _ (heff k h4)).2))
      rw [hiS] at this; cases this
  refine ⟨hle, ?_⟩
  have := hr.same (a := hiOf l S ops.size) (i - hiOf l S ops.size) (by rw [c.len]; omega) (fun k h1 h2 => by
    cases he : isEff l k with
    | false => rfl
    | true =>
      have hki : k < i := by omega
      have hS := hb k (c.tied k i hki hi (tied_clash (hc _ (heff k he)).1))
      have := hiOf_ge (l := l) S ops.size k (by omega) hS he
      omega)
  rw [← this]; congr 1; omega

theorem Ctx.eff (c : Ctx ops l S) {i : Nat} (hi : i < ops.size) (hiS : S i = false) (he : isEff l i = true) : hiOf l (fun k => S k || k == i) ops.size = i + 1 := by
  have h1 := hiOf_ge (l := l) (fun k => S k || k == i) ops.size i hi (by simp) he
  rcases hiOf_in (l := l) (fun k => S k || k == i) ops.size with h | ⟨k, k1, k2, k3, k4⟩
  · omega
  · by_cases hk : k = i
    · rw [k2, hk]
    · exfalso
      have hS : S k = true := by have : (k == i) = false := by simpa using hk
                                 rwa [this, Bool.or_false] at k3
      have heff : ∀ k, isEff l k = true → (l.getD k badOp).i.cls = 2 ∨ (l.getD k badOp).i.cls = 4 := fun k hk => by
        unfold isEff at hk; simpa using hk
      have hcl : clash (l.getD i badOp).i.cls (l.getD k badOp).i.cls = true := by
        rcases heff i he with e1 | e1 <;> rcases heff k k4 with e2 | e2 <;> rw [e1, e2] <;> rfl
      have := c.cl k k1 hS i (c.tied i k (by omega) k1 (tied_clash hcl))
      rw [hiS] at this; cases this

/-- a load finds what it finds in the text's order -/
theorem Ctx.load (c : Ctx ops l S) (hr : Runs P l frs Hs vs) {i : Nat} (hi : i < ops.size) (hiS : S i = false) (hb : ∀ k, ((Region.before ops).getD i 0).testBit k = true → S k = true) (h1 : (l.getD i badOp).i.cls = 1)
    {fr : Fr} {v : A} {H' : Hp} (hst : stepI fr (Hs i) (l.getD i badOp).i = some (v, H')) (hat : ∀ s ∈ (l.getD i badOp).i.slots, ∀ j, (fr s).at? = some j → j < (Hs (hiOf l S ops.size)).length) :
    stepI fr (Hs (hiOf l S ops.size)) (l.getD i badOp).i = some (v, Hs (hiOf l S ops.size)) := by
  have hvr : (l.getD i badOp).i.vread = true → (l.any fun o => o.i.vread) = true := fun h => by
    have hil : i < l.length := by rw [c.len]; exact hi
    rw [getD_of (List.getElem?_eq_getElem hil)] at h
    exact List.any_eq_true.2 ⟨_, List.getElem_mem hil, h⟩
  by_cases hle : hiOf l S ops.size ≤ i
  · have := hr.alike c.va (a := hiOf l S ops.size) (i - hiOf l S ops.size) (by rw [c.len]; omega) (fun k k1 k2 hk4 => by
      have hS := hb k (c.tied k i (by omega) hi (tied_clash (by rw [hk4, h1]; rfl)))
      have := hiOf_ge (l := l) S ops.size k (by omega) hS (by unfold isEff; rw [hk4]; rfl)
      omega)
    rw [show hiOf l S ops.size + (i - hiOf l S ops.size) = i by omega] at this
    exact (stepI_cls1 h1 hvr hst).2 _ _ hat this.2.symm
  · rcases hiOf_in (l := l) S ops.size with h | ⟨k, k1, k2, k3, k4⟩
    · omega
    · have := hr.alike c.va (a := i) (hiOf l S ops.size - i) (by rw [c.len]; have := hiOf_le (l := l) S ops.size; omega) (fun q q1 q2 hq4 => by
        have hqi : q ≠ i := fun e => by subst e; rw [h1] at hq4; cases hq4
        have hqS : S q = true := by
          by_cases hqk : q = k
          · subst hqk; exact k3
          · refine c.cl k k1 k3 q (c.tied q k (by omega) k1 (tied_clash ?_))
            have : (l.getD k badOp).i.cls = 2 ∨ (l.getD k badOp).i.cls = 4 := by unfold isEff at k4; simpa using k4
            rcases this with e | e <;> rw [hq4, e] <;> rfl
        have := c.cl q (by omega) hqS i (c.tied i q (by omega) (by omega) (tied_clash (by rw [h1, hq4]; rfl)))
        rw [hiS] at this; cases this)
      rw [show i + (hiOf l S ops.size - i) = hiOf l S ops.size by omega] at this
      exact stepI_cls1' h1 hvr hst _ this.2

end main

theorem slots_reads {o : IOp} {s : Nat} (h : s ∈ o.i.slots) : s ∈ o.reads := by simp [IOp.reads, h]

theorem draw_sound {P : Program} {κ0 : K} {nt : NT} {tok : List Nat} {ops : Array Oper} {K : Fr → Hp → Prop} {Q : Exit → Act → World → Prop} (hK : ∀ κ fr H a w, κ0.le κ → SR κ nt fr H a w → K fr H → Q .normal a w)
    (hok : drawOk (ops.toList.map (compO P nt tok ops)) ops (Region.before ops) = true) {κ1 : Zam.K} {fr : Fr} {H : Hp} {a : Act} {w : World} (h01 : κ0.le κ1) (hs1 : SR κ1 nt fr H a w) (h : ADraw P (ops.toList.map (compO P nt tok ops)) K fr H) :
    wpAny P .any ops Q ops.size (Array.replicate ops.size false) a w := by
  obtain ⟨frs, Hs, vs, r0, r1, hr, hfin⟩ := draw_run _ _ _ h
  generalize hl : ops.toList.map (compO P nt tok ops) = l at *
  have hlen : l.length = ops.size := by rw [← hl]; simp
  rw [hlen] at hfin
  have hget : ∀ (k : Nat) (o : Oper), ops[k]? = some o → l.getD k badOp = compO P nt tok ops o ∧ l[k]? = some (compO P nt tok ops o) := fun k o ho => by
    have : l[k]? = some (compO P nt tok ops o) := by rw [← hl, List.getElem?_map]; simp [ho]
    exact ⟨getD_of this, this⟩
  subst r0
  subst r1
  have hR : Runs P l frs Hs vs := hr
  unfold drawOk at hok
  simp only [List.all_eq_true, List.mem_range, Bool.and_eq_true, Bool.or_eq_true, Bool.not_eq_true', Array.all_eq_true_iff_forall_mem, decide_eq_true_eq] at hok
  obtain ⟨hok0, hok⟩ := hok
  have hvva : (l.any fun o => o.i.vread) = true → ∀ k, (l.getD k badOp).i.vapp = false := fun h k => by
    rw [Bool.and_eq_false_iff] at hok0
    rcases hok0 with h0 | h0
    · rw [h] at h0; cases h0
    · by_cases hk : k < l.length
      · rw [getD_of (List.getElem?_eq_getElem hk)]
        have := List.any_eq_false.1 h0 _ (List.getElem_mem hk)
        simpa using this
      · simp [List.getD, List.getElem?_eq_none (Nat.le_of_not_lt hk), badOp, I.vapp]
  have htied : ∀ i j, i < j → j < ops.size → tied (l.getD i badOp) (l.getD j badOp) = true → ((Region.before ops).getD j 0).testBit i = true := fun i j hij hj ht =>
    ((hok j hj).2 i hij).resolve_left (by rw [ht]; simp)
  have hedge : ∀ j o, ops[j]? = some o → ∀ e ∈ o.after, Region.binds .any e = true → e.on < j := fun j o ho e he hb => by
    have hj : j < ops.size := (Array.getElem?_eq_some_iff.1 ho).1
    have := (hok j hj).1 e (by simpa [ho] using he)
    exact this.resolve_left (by rw [hb]; simp)
  have done : ∀ (listed : Array Bool) (κ : Zam.K) (a : Act) (w : World), (∀ k, k < ops.size → listed.getD k false = true) → κ0.le κ →
      SR κ nt (frOf l vs (frs 0) (fun k => listed.getD k false) ops.size) (Hs (hiOf l (fun k => listed.getD k false) ops.size)) a w → Q .normal a w := by
    intro listed κ a w hall h0 hs
    have e1 : ∀ m, m ≤ ops.size → frOf l vs (frs 0) (fun k => listed.getD k false) m = frs m := fun m => by
      induction m with
      | zero => intro _; rfl
      | succ m ih =>
        intro hm
        have ho := List.getElem?_eq_getElem (l := l) (i := m) (by omega)
        unfold frOf
        rw [if_pos (hall m (by omega)), ih (by omega), (hR m _ ho).2, getD_of ho]
    have e2 : Hs (hiOf l (fun k => listed.getD k false) ops.size) = Hs ops.size := by
      have hle := hiOf_le (l := l) (fun k => listed.getD k false) ops.size
      have := hR.same (a := hiOf l (fun k => listed.getD k false) ops.size) (ops.size - hiOf l (fun k => listed.getD k false) ops.size) (by omega) (fun k h1 h2 => by
        cases he : isEff l k with
        | false => rfl
        | true => have := hiOf_ge (l := l) (fun k => listed.getD k false) ops.size k (by omega) (hall k (by omega)) he; omega)
      rw [← this]; congr 1; omega
    rw [e1 _ (Nat.le_refl _), e2] at hs
    exact hK κ _ _ a w h0 hs hfin
  have main : ∀ (fuel : Nat) (listed : Array Bool) (κ : Zam.K) (a : Act) (w : World), listed.size = ops.size → (∀ j, j < ops.size → listed.getD j false = true → ∀ k, ((Region.before ops).getD j 0).testBit k = true → listed.getD k false = true) →
      κ0.le κ → SR κ nt (frOf l vs (frs 0) (fun k => listed.getD k false) ops.size) (Hs (hiOf l (fun k => listed.getD k false) ops.size)) a w → ((List.range ops.size).filter fun k => !listed.getD k false).length ≤ fuel →
      wpAny P .any ops Q fuel listed a w := by
    intro fuel
    induction fuel with
    | zero =>
      intro listed κ a w hsz hcl h0 hs hcnt
      have hall : ∀ k, k < ops.size → listed.getD k false = true := fun k hk => by
        cases hk' : listed.getD k false with
        | true => rfl
        | false =>
          have : k ∈ (List.range ops.size).filter fun k => !listed.getD k false := by simp only [List.mem_filter, List.mem_range]; exact ⟨hk, by rw [hk']; rfl⟩
          have := List.length_pos_of_mem this
          omega
      refine ⟨?_, ?_⟩
      · refine List.eq_nil_iff_forall_not_mem.2 fun i hi => ?_
        obtain ⟨h1, o, ho, -⟩ := mem_ready.1 hi
        have := hall i (Array.getElem?_eq_some_iff.1 ho).1
        have hi' : i < listed.size := by rw [hsz]; exact (Array.getElem?_eq_some_iff.1 ho).1
        simp [hi'] at h1 this
        rw [h1] at this; cases this
      · exact done listed κ a w hall h0 hs
    | succ fuel ih =>
      intro listed κ a w hsz hcl h0 hs hcnt
      refine ⟨fun hnil => ?_, fun i hi => ?_⟩
      · -- nothing is ready: all is done
        refine done listed κ a w (fun k hk => ?_) h0 hs
        induction k using Nat.strongRecOn with
        | _ k ihk =>
          cases hk' : listed.getD k false with
          | true => rfl
          | false =>
            exfalso
            have ho : ops[k]? = some ops[k] := Array.getElem?_eq_getElem hk
            have : k ∈ Region.ready .any ops listed := mem_ready.2 ⟨by
              have : k < listed.size := by omega
              simp [this] at hk' ⊢; exact hk', ops[k], ho, fun e he hb => ihk e.on (hedge k _ ho e he hb) (by have := hedge k _ ho e he hb; omega)⟩
            rw [hnil] at this; cases this
      · obtain ⟨h1, o, ho, hbefore⟩ := mem_ready.1 hi
        have hi' : i < ops.size := (Array.getElem?_eq_some_iff.1 ho).1
        have hil : i < listed.size := by omega
        have hiS : listed.getD i false = false := by simp [hil] at h1 ⊢; exact h1
        have hb : ∀ k, ((Region.before ops).getD i 0).testBit k = true → listed.getD k false = true := fun k hk => by
          obtain ⟨e, he, hbe, hor⟩ := before_spec ho hk
          have hon := hbefore e he hbe
          rcases hor with rfl | hor
          · exact hon
          · exact hcl e.on (by have := hedge i o ho e he hbe; omega) hon k hor
        have c : Ctx ops l (fun k => listed.getD k false) := ⟨hlen, htied, hvva, hcl⟩
        obtain ⟨hgd, hg?⟩ := hget i o ho
        have hslot : ∀ s ∈ (l.getD i badOp).reads, frOf l vs (frs 0) (fun k => listed.getD k false) ops.size s = frs i s := fun s hs => by
          have := c.slot hR hi' hiS hb hs ops.size (Nat.le_refl _)
          rwa [Nat.min_eq_right (by omega)] at this
        -- what follows
        have follow : ∀ κ' a' w', κ0.le κ' → SR κ' nt ((frOf l vs (frs 0) (fun k => listed.getD k false) ops.size).put (l.getD i badOp).dst (vs i)) (Hs (hiOf l (fun k => listed.getD k false || k == i) ops.size)) a' w' →
            wpAny P .any ops Q fuel (listed.setIfInBounds i true) a' w' := fun κ' a' w' h0' hs' => by
          have hfun : (fun k => (listed.setIfInBounds i true).getD k false) = fun k => listed.getD k false || k == i := funext fun k => getD_setB listed i k hil
          refine ih _ κ' a' w' (by simpa using hsz) (fun j hj hjS k hk => ?_) h0' ?_ ?_
          · rw [getD_setB listed i _ hil] at hjS ⊢
            simp only [Bool.or_eq_true, beq_iff_eq] at hjS ⊢
            rcases hjS with hjS | rfl
            · exact .inl (hcl j hj hjS k hk)
            · exact .inl (hb k hk)
          · rw [hfun, c.next hi' hiS]; exact hs'
          · have hlt : ((List.range ops.size).filter fun k => !(listed.setIfInBounds i true).getD k false).length < ((List.range ops.size).filter fun k => !listed.getD k false).length := by
              have hsub : (List.range ops.size).filter (fun k => !(listed.setIfInBounds i true).getD k false) = ((List.range ops.size).filter fun k => !listed.getD k false).filter fun k => !(k == i) := by
                rw [List.filter_filter]
                refine List.filter_congr fun k _ => ?_
                rw [getD_setB listed i k hil]
                cases listed.getD k false <;> cases (k == i) <;> rfl
              rw [hsub]
              refine List.length_filter_lt_length_iff_exists.2 ⟨i, ?_, by simp⟩
              simp only [List.mem_filter, List.mem_range]
              exact ⟨hi', by rw [hiS]; rfl⟩
            omega
        obtain ⟨hstep, -⟩ := hR i _ hg?
        have hbad : compO P nt tok ops o ≠ badOp := fun e => by
          rw [e] at hstep
          simp only [StepG, badOp, StepD, EntersR, Arg.ev, I.cls] at hstep
          rcases hstep with ⟨h, -⟩ | ⟨h, -⟩
          · exact h
          · exact h rfl
        obtain ⟨g, ii, hgu, hci, hdst, hcomp⟩ := (compO_spec (P := P) (nt := nt) (tok := tok) (ops := ops) (o := o)).resolve_left hbad
        rw [hcomp] at hstep hgd
        have hread : ∀ s, s ∈ (l.getD i badOp).i.slots → frOf l vs (frs 0) (fun k => listed.getD k false) ops.size s = frs i s := fun s hs => hslot s (slots_reads hs)
        rw [hgd] at hread
        simp only at hread
        -- it is carried out
        have doit : StepD P (frs i) (Hs i) ii (vs i) (Hs (i + 1)) → o.wp P a w (wpAny P .any ops Q fuel (listed.setIfInBounds i true)) Q := by
          intro hsd
          rcases hsd with ⟨hent, hH⟩ | ⟨hcls, hst⟩
          · -- a call
            rcases enters_cls hent with h3 | h3
            case inr =>
              obtain ⟨-, hHi⟩ := c.exact hR hi' hiS hb (by rw [hgd]; simp only [h3]; rintro q (rfl | rfl) <;> exact ⟨rfl, rfl⟩)
              have hent' := (enters_congr hread).2 hent
              obtain ⟨f, us, ars, hrun, hl', hv, hcall⟩ := enters_sound hci hs hent'
              unfold Oper.wp
              rw [hrun, Oper.upon_enter]
              rw [← hHi] at hcall
              refine (hcall κ w us hs.hr hl' hv).mono ?_
              rintro e w' ⟨v, κ', x, H', rfl, k1, k2, k3, rfl, rfl⟩
              refine follow κ' _ w' (h0.trans k1) ?_
              rw [c.eff hi' hiS (by unfold isEff; rw [hgd]; simp only [h3]; rfl), hgd]
              exact hs.put k1 k2 hdst k3
            obtain rfl_ : Hs (i + 1) = Hs i := hH.resolve_left (by rw [h3]; decide)
            rw [rfl_] at hent
            obtain ⟨-, hHi⟩ := c.exact hR hi' hiS hb (by rw [hgd]; simp only [h3]; rintro q (rfl | rfl) <;> exact ⟨rfl, rfl⟩)
            have hent' := (enters_congr hread).2 hent
            obtain ⟨f, us, ars, hrun, hl', hv, hcall⟩ := enters_sound hci hs hent'
            unfold Oper.wp
            rw [hrun, Oper.upon_enter]
            rw [← hHi] at hcall
            refine (hcall κ w us hs.hr hl' hv).mono ?_
            rintro e w' ⟨v, κ', x, H', rfl, k1, k2, k3, rfl, rfl⟩
            refine follow κ' _ w' (h0.trans k1) ?_
            rw [Ctx.hi_quiet (by unfold isEff; rw [hgd]; simp only [h3]; rfl), hgd]
            exact hs.put k1 k2 hdst k3
          · have hnext : stepI (frOf l vs (frs 0) (fun k => listed.getD k false) ops.size) (Hs (hiOf l (fun k => listed.getD k false) ops.size)) ii = some (vs i, Hs (hiOf l (fun k => listed.getD k false || k == i) ops.size)) := by
              have hcong : stepI (frOf l vs (frs 0) (fun k => listed.getD k false) ops.size) (Hs i) ii = some (vs i, Hs (i + 1)) := by rw [stepI_congr hread]; exact hst
              rcases cls_le ii with h4 | h4 | h4 | h4 | h4
              · rw [Ctx.hi_quiet (by unfold isEff; rw [hgd]; simp only [h4]; rfl)]
                exact (stepI_cls0 h4 hcong).2 _
              · rw [Ctx.hi_quiet (by unfold isEff; rw [hgd]; simp only [h4]; rfl)]
                have := c.load hR hi' hiS hb (by rw [hgd]; exact h4) (fr := frOf l vs (frs 0) (fun k => listed.getD k false) ops.size) (v := vs i) (H' := Hs (i + 1)) (by rw [hgd]; exact hcong) (fun s _ j hj => (hs.vr s).at_lt hs.hr.dom hj)
                rw [hgd] at this
                exact this
              · obtain ⟨-, hHi⟩ := c.exact hR hi' hiS hb (by rw [hgd]; simp only [h4]; rintro q (rfl | rfl) <;> exact ⟨rfl, rfl⟩)
                rw [hHi, c.eff hi' hiS (by unfold isEff; rw [hgd]; simp only [h4]; rfl)]
                exact hcong
              · exact absurd h4 hcls
              · obtain ⟨-, hHi⟩ := c.exact hR hi' hiS hb (by rw [hgd]; simp only [h4]; rintro q (rfl | rfl) <;> exact ⟨rfl, rfl⟩)
                rw [hHi, c.eff hi' hiS (by unfold isEff; rw [hgd]; simp only [h4]; rfl)]
                exact hcong
            obtain ⟨u, w', κ', hrun, k1, k2, k3⟩ := step_sound hci hs hnext
            have hfin' := follow κ' (a.put o.dst u) w' (h0.trans k1) (by rw [hgd]; exact hs.put k1 k2 hdst k3)
            unfold Oper.wp
            rcases hrun with hrun | ⟨hrun, rfl⟩
            · rw [hrun, Oper.upon_value]; exact hfin'
            · rw [hrun, Oper.upon_skip]; exact hfin'
        unfold wpOp
        simp only [ho]
        cases g with
        | none =>
          rw [if_pos (wanted_none hgu _)]
          exact .inl (doit hstep)
        | some sb =>
          obtain ⟨s, b⟩ := sb
          have hsl := hslot s (by rw [hgd]; simp [IOp.reads])
          rw [wanted_some hgu]
          have hgs : ∀ T F : Prop, (frs i s = .d (.bool b) → T) → ((frs i s = .d (.bool (!b)) ∨ frs i s = .tup []) → F) → (frs i s = .d (.bool b) ∨ (frs i s = .d (.bool (!b)) ∨ frs i s = .tup [])) →
              (tmpIs a.tmps s b = true ∧ T) ∨ (tmpIs a.tmps s b = false ∧ F) := fun T F hT hF hor => by
            have := guard_sound hs (s := s) (b := b) (T := fun _ => T) (F := fun _ => F) (by
              rw [hsl]
              rcases hor with e | e | e
              · rw [e]; simp only [AGd, if_true]; exact hT e
              · rw [e]; simp only [AGd]; rw [if_neg (by cases b <;> simp)]; exact hF (.inl e)
              · rw [e]; exact hF (.inr e))
            exact this
          rcases hstep with ⟨e, hsd⟩ | ⟨e, hv, hH⟩
          · rcases hgs True False (fun _ => trivial) (fun hh => by rw [e] at hh; rcases hh with hh | hh; (cases b <;> cases hh); cases hh) (.inl e) with ⟨h5, -⟩ | ⟨-, h5⟩
            · rw [h5]; simp only [if_true]; exact .inl (doit hsd)
            · exact h5.elim
          · rcases hgs False True (fun hh => by rcases e with e | e; (rw [e] at hh; cases b <;> cases hh); (rw [e] at hh; cases hh)) (fun _ => trivial) (.inr e) with ⟨-, h5⟩ | ⟨h5, -⟩
            · exact h5.elim
            · rw [h5]
              simp only [Bool.false_eq_true, if_false]
              refine follow κ _ w h0 ?_
              have hHn : Hs (hiOf l (fun k => listed.getD k false || k == i) ops.size) = Hs (hiOf l (fun k => listed.getD k false) ops.size) := by
                by_cases he : isEff l i = true
                · have h24 : (l.getD i badOp).i.cls = 2 ∨ (l.getD i badOp).i.cls = 4 := by unfold isEff at he; simpa using he
                  obtain ⟨-, hHi⟩ := c.exact hR hi' hiS hb (by rcases h24 with e | e <;> rw [e] <;> rintro q (rfl | rfl) <;> exact ⟨rfl, rfl⟩)
                  rw [hHi, c.eff hi' hiS he, hH]
                · rw [Ctx.hi_quiet (by simpa using he)]
              rw [hHn, hgd, hv]
              exact hs.put (Zam.K.le_refl κ) hs.hr hdst (.tup [] [] rfl (by simp))
  refine main ops.size _ κ1 a w (by simp) ?_ h01 ?_ ?_
  · intro j _ hj; rw [getD_replicate] at hj; cases hj
  · have e1 : ∀ n, frOf l vs (frs 0) (fun k => (Array.replicate ops.size false).getD k false) n = frs 0 := fun n => by
      induction n with
      | zero => rfl
      | succ n ih => unfold frOf; rw [if_neg (by rw [getD_replicate]; simp)]; exact ih
    have e2 : ∀ n, hiOf l (fun k => (Array.replicate ops.size false).getD k false) n = 0 := fun n => by
      induction n with
      | zero => rfl
      | succ n ih => unfold hiOf; rw [if_neg (by rw [getD_replicate]; simp)]; exact ih
    rw [e1, e2]; exact hs1
  · exact Nat.le_trans (List.length_filter_le _ _) (by simp)

end Go.Zam

namespace Go.Zam
open Go.RowKit (Below)

/-! an open order of which every one is gone through -/

theorem runI_congr {P : Program} {fr fr' : Fr} {H : Hp} {i : I} {K : A → Hp → Prop} (h : ∀ s ∈ i.slots, fr' s = fr s) : runI P fr' H i K = runI P fr H i K := by
  cases i with
  | call f l => simp only [runI]; rw [map_ev_congr h]
  | callE f l => simp only [runI]; rw [map_ev_congr h]
  | callv f l =>
    simp only [I.slots, List.mem_append] at h
    simp only [runI]
    rw [ev_congr (x := f) fun s hs => h s (.inl hs), map_ev_congr (l := l) fun s hs => h s (.inr hs)]
  | _ => simp only [runI]; rw [stepI_congr h]

theorem runI_mono {P : Program} {fr : Fr} {H : Hp} {i : I} {K K' : A → Hp → Prop} (h : runI P fr H i K) (hk : ∀ v H', K v H' → K' v H') : runI P fr H i K' := by
  cases i with
  | call f l => exact ACall.mono h hk
  | callE f l => exact ACall.mono h hk
  | callv f l =>
    simp only [runI] at h ⊢
    split at h
    · exact ⟨h.1, h.2.mono hk⟩
    · exact ⟨h.1, h.2.mono hk⟩
    · exact h.elim
  | _ =>
    simp only [runI] at h ⊢
    split at h
    · exact hk _ _ h
    · exact h.elim

theorem AOps1_mono {P : Program} {fr fr' : Fr} {H : Hp} {o : IOp} {K K' : Fr → Hp → Prop} (hf : ∀ s ∈ o.reads, fr' s = fr s) (h : AOps P [o] K fr H) (hk : ∀ v H', K (fr.put o.dst v) H' → K' (fr'.put o.dst v) H') : AOps P [o] K' fr' H := by
  have hs : ∀ s ∈ o.i.slots, fr' s = fr s := fun s hs => hf s (slots_reads hs)
  simp only [AOps] at h ⊢
  cases hg : o.g with
  | none =>
    rw [hg] at h
    simp only at h ⊢
    rw [runI_congr hs]
    exact runI_mono h fun v H' => hk v H'
  | some sb =>
    obtain ⟨s, b⟩ := sb
    rw [hg] at h
    simp only [AGd] at h ⊢
    rw [hf s (by simp [IOp.reads, hg])]
    split at h
    · split at h
      · rename_i e; rw [if_pos e, runI_congr hs]; exact runI_mono h fun v H' => hk v H'
      · rename_i e; rw [if_neg e]; exact hk _ _ h
    · exact hk _ _ h
    · exact h.elim

/-- whatever order: it comes to K -/
def AAny (P : Program) (ops : Array Oper) (l : List IOp) (K : Fr → Hp → Prop) : Nat → Array Bool → Fr → Hp → Prop
  | 0, listed, fr, H => Region.ready .any ops listed = [] ∧ K fr H
  | n + 1, listed, fr, H => (Region.ready .any ops listed = [] → K fr H) ∧ ∀ i ∈ Region.ready .any ops listed, AOps P [l.getD i badOp] (AAny P ops l K n (listed.setIfInBounds i true)) fr H

theorem op1_sound {P : Program} {κ0 : K} {nt : NT} {tok : List Nat} {ops : Array Oper} {K : Fr → Hp → Prop} {next : Act → World → Prop} {Q : Exit → Act → World → Prop} (hn : ∀ κ fr H a w, κ0.le κ → SR κ nt fr H a w → K fr H → next a w)
    {i : Nat} {o : Oper} (ho : ops[i]? = some o) {κ : Zam.K} {fr : Fr} {H : Hp} {a : Act} {w : World} (h0 : κ0.le κ) (hs : SR κ nt fr H a w) (h : AOps P [compO P nt tok ops o] K fr H) : wpOp P ops Q i next a w := by
  simp only [AOps] at h
  rcases compO_spec (P := P) (nt := nt) (tok := tok) (ops := ops) (o := o) with hb | ⟨g, ii, hg, hi, hd, hcomp⟩
  · rw [hb] at h; simp [badOp, runI, Arg.ev] at h
  · rw [hcomp] at h
    simp only at h
    have step : ∀ fr, SR κ nt fr H a w → runI P fr H ii (fun v H' => K (fr.put o.dst v) H') → o.wp P a w next Q := fun fr hs h =>
      op_sound hi hd h0 hs h (fun κ' v H' u w' h0' hs' hk => hn κ' _ _ _ _ h0' hs' hk)
    unfold wpOp
    rw [ho]
    simp only
    cases g with
    | none =>
      simp only at h
      rw [if_pos (wanted_none hg _)]
      exact .inl (step fr hs h)
    | some sb =>
      obtain ⟨s, b⟩ := sb
      simp only at h
      rw [wanted_some hg]
      rcases guard_sound hs h with ⟨h1, h2⟩ | ⟨h1, h2⟩
      · rw [h1]; simp only [if_true]; exact .inl (step fr hs h2)
      · rw [h1]
        simp only [Bool.false_eq_true, if_false]
        exact hn κ _ _ _ _ h0 (hs.put (Zam.K.le_refl κ) hs.hr hd (.tup [] [] rfl (by simp))) h2

theorem any_sound {P : Program} {κ0 : K} {nt : NT} {tok : List Nat} {ops : Array Oper} {K : Fr → Hp → Prop} {Q : Exit → Act → World → Prop} (hK : ∀ κ fr H a w, κ0.le κ → SR κ nt fr H a w → K fr H → Q .normal a w) :
    ∀ (n : Nat) (listed : Array Bool) (κ : Zam.K) (fr : Fr) (H : Hp) (a : Act) (w : World), κ0.le κ → SR κ nt fr H a w → AAny P ops (ops.toList.map (compO P nt tok ops)) K n listed fr H → wpAny P .any ops Q n listed a w := by
  intro n
  induction n with
  | zero => intro listed κ fr H a w h0 hs h; exact ⟨h.1, hK κ fr H a w h0 hs h.2⟩
  | succ n ih =>
    intro listed κ fr H a w h0 hs h
    refine ⟨fun e => hK κ fr H a w h0 hs (h.1 e), fun i hi => ?_⟩
    obtain ⟨-, o, ho, -⟩ := mem_ready.1 hi
    have h1 := h.2 i hi
    have : (ops.toList.map (compO P nt tok ops)).getD i badOp = compO P nt tok ops o := by
      have : (ops.toList.map (compO P nt tok ops))[i]? = some (compO P nt tok ops o) := by rw [List.getElem?_map]; simp [ho]
      exact getD_of this
    rw [this] at h1
    exact op1_sound (fun κ fr H a w h0 hs h => ih _ κ fr H a w h0 hs h) ho h0 hs h1

theorem put_comm' {fr : Fr} {d d' : Option Nat} {v v' : A} (h : ∀ x, d = some x → d' ≠ some x) : (fr.put d v).put d' v' = (fr.put d' v').put d v := by
  cases d with
  | none => rfl
  | some x =>
    cases d' with
    | none => rfl
    | some y =>
      have hxy : x ≠ y := fun e => h x rfl (by rw [e])
      funext s
      simp only [Fr.put, Fr.set]
      by_cases h1 : s = x <;> by_cases h2 : s = y <;> simp_all

theorem put_away {fr : Fr} {d : Option Nat} {v : A} {s : Nat} (h : d ≠ some s) : (fr.put d v) s = fr s := by
  cases d with
  | none => rfl
  | some x => simp only [Fr.put, Fr.set]; rw [if_neg]; intro e; exact h (by rw [e])

theorem slotTied_no {a b : IOp} (h : slotTied a b = false) : (∀ d, a.dst = some d → d ∉ b.reads ∧ b.dst ≠ some d) ∧ ∀ d, b.dst = some d → d ∉ a.reads := by
  unfold slotTied at h
  rw [Bool.or_eq_false_iff] at h
  refine ⟨fun d hd => ?_, fun d hd => ?_⟩
  · have := h.1; rw [hd] at this; simpa using this
  · have := h.2; rw [hd] at this; simpa using this

theorem AOps1_pure {P : Program} {fr : Fr} {H : Hp} {o : IOp} {K : Fr → Hp → Prop} (hc : o.i.cls = 0) (hg : o.g = none) (h : AOps P [o] K fr H) : ∃ v, (∀ H2, stepI fr H2 o.i = some (v, H2)) ∧ K (fr.put o.dst v) H := by
  simp only [AOps] at h
  rw [hg] at h
  simp only at h
  rcases stepI_runI h with ⟨f, l, e | e⟩ | ⟨f, l, e⟩ | ⟨v, H', hst, hk⟩
  · rw [e] at hc; cases hc
  · rw [e] at hc; cases hc
  · rw [e] at hc; cases hc
  · obtain ⟨h1, h2⟩ := stepI_cls0 hc hst
    subst h1
    exact ⟨v, h2, hk⟩

theorem AOps1_of {P : Program} {fr : Fr} {H : Hp} {o : IOp} {K : Fr → Hp → Prop} (hc : o.i.cls = 0) (hg : o.g = none) {v : A} (h : stepI fr H o.i = some (v, H)) (hk : K (fr.put o.dst v) H) : AOps P [o] K fr H := by
  simp only [AOps]
  rw [hg]
  simp only
  generalize o.i = i at hc h
  cases i <;> first | (simp only [I.cls] at hc; exact absurd hc (by decide)) | (simp only [runI, h]; exact hk)

theorem set_comm {listed : Array Bool} {i j : Nat} : (listed.setIfInBounds i true).setIfInBounds j true = (listed.setIfInBounds j true).setIfInBounds i true := by
  by_cases h : i = j
  · subst h; rfl
  · apply Array.ext'
    simp only [Array.toList_setIfInBounds]
    exact List.set_comm _ _ h

theorem any_first {P : Program} {ops : Array Oper} {l : List IOp} {K : Fr → Hp → Prop} {i : Nat} : ∀ (n : Nat) (listed : Array Bool) (fr : Fr) (H : Hp), i ∈ Region.ready .any ops listed → firstOk l ops listed i = true →
    AOps P [l.getD i badOp] (AAny P ops l K n (listed.setIfInBounds i true)) fr H → AAny P ops l K (n + 1) listed fr H := by
  intro n
  induction n with
  | zero =>
    intro listed fr H hi hf h
    refine ⟨fun e => by (rw [e] at hi; cases hi), fun j hj => ?_⟩
    by_cases hij : j = i
    · subst hij; exact h
    · exfalso
      unfold firstOk at hf
      simp only [Bool.and_eq_true, beq_iff_eq, Option.isNone_iff_eq_none] at hf
      obtain ⟨v, -, hk⟩ := AOps1_pure hf.1.1 hf.1.2 h
      have := hk.1
      have hj' : j ∈ Region.ready .any ops (listed.setIfInBounds i true) := by
        obtain ⟨h1, o, ho, h2⟩ := mem_ready.1 hj
        refine mem_ready.2 ⟨by rw [getD_set_ne _ (fun e => hij e.symm)]; exact h1, o, ho, fun e he hb => ?_⟩
        by_cases hei : i = e.on
        · rw [← hei]
          obtain ⟨h3, _, ho', _⟩ := mem_ready.1 hi
          by_cases hlt : i < listed.size
          · simp [hlt]
          · simp [hlt] at h3
        · rw [getD_set_ne _ hei]; exact h2 e he hb
      rw [this] at hj'; cases hj'
  | succ n ih =>
    intro listed fr H hi hf h
    refine ⟨fun e => by (rw [e] at hi; cases hi), fun j hj => ?_⟩
    by_cases hij : j = i
    · subst hij; exact h
    · have hf0 := hf
      unfold firstOk at hf
      simp only [Bool.and_eq_true, beq_iff_eq, Option.isNone_iff_eq_none] at hf
      obtain ⟨⟨hc, hg⟩, hall⟩ := hf
      obtain ⟨v, hst, hk⟩ := AOps1_pure hc hg h
      obtain ⟨hi1, oi, hoi, hi2⟩ := mem_ready.1 hi
      obtain ⟨hj1, oj, hoj, hj2⟩ := mem_ready.1 hj
      have hisz : i < listed.size := by
        by_cases hlt : i < listed.size
        · exact hlt
        · simp [hlt] at hi1
      have hjsz : j < listed.size := by
        by_cases hlt : j < listed.size
        · exact hlt
        · simp [hlt] at hj1
      have hjr : j ∈ Region.ready .any ops (listed.setIfInBounds i true) := by
        refine mem_ready.2 ⟨by rw [getD_set_ne _ (fun e => hij e.symm)]; exact hj1, oj, hoj, fun e he hb => ?_⟩
        by_cases hei : i = e.on
        · rw [← hei]; simp [hisz]
        · rw [getD_set_ne _ hei]; exact hj2 e he hb
      have hir : i ∈ Region.ready .any ops (listed.setIfInBounds j true) := by
        refine mem_ready.2 ⟨by rw [getD_set_ne _ hij]; exact hi1, oi, hoi, fun e he hb => ?_⟩
        by_cases hei : j = e.on
        · rw [← hei]; simp [hjsz]
        · rw [getD_set_ne _ hei]; exact hi2 e he hb
      have hfj : firstOk l ops (listed.setIfInBounds j true) i = true := by
        unfold firstOk
        simp only [Bool.and_eq_true, beq_iff_eq, Option.isNone_iff_eq_none]
        refine ⟨⟨hc, hg⟩, ?_⟩
        rw [List.all_eq_true] at hall ⊢
        intro k hk'
        have := hall k hk'
        simp only [Bool.or_eq_true] at this ⊢
        rcases this with (((h1 | h1) | h1) | h1)
        · exact .inl (.inl (.inl h1))
        · refine .inl (.inl (.inr ?_))
          rw [getD_setB listed j k hjsz]; simp [h1]
        · exact .inl (.inr h1)
        · exact .inr h1
      have hnt : slotTied (l.getD i badOp) (l.getD j badOp) = false := by
        rw [List.all_eq_true] at hall
        have hjo : j < ops.size := (Array.getElem?_eq_some_iff.1 hoj).1
        have := hall j (List.mem_range.2 hjo)
        simp only [Bool.or_eq_true, beq_iff_eq, Bool.not_eq_true'] at this
        rcases this with (((h1 | h1) | h1) | h1)
        · exact absurd h1 hij
        · have h3 : listed.getD j true = true := by
            simp [hjsz] at h1 ⊢; exact h1
          rw [h3] at hj1; cases hj1
        · exfalso
          have hjd : ops.getD j default = oj := by simp [hoj]
          rw [hjd] at h1
          unfold waits at h1
          rw [Array.any_eq_true'] at h1
          obtain ⟨e, he, h4⟩ := h1
          simp only [Bool.and_eq_true, beq_iff_eq] at h4
          have := hj2 e he h4.1
          rw [h4.2] at this
          simp [hisz] at this hi1
          rw [hi1] at this; cases this
        · exact h1
      obtain ⟨t1, t2⟩ := slotTied_no hnt
      have hj' := hk.2 j hjr
      refine AOps1_mono (fr := fr.put (l.getD i badOp).dst v) (fun s hs => ?_) hj' fun vj Hj hkj => ?_
      · rw [put_away]
        intro e; exact (t1 s e).1 hs
      · refine ih _ _ _ hir hfj (AOps1_of hc hg (v := v) ?_ ?_)
        · rw [stepI_congr (fr := fr)]
          · exact hst Hj
          · intro s hs
            rw [put_away]
            intro e; exact t2 s e (slots_reads hs)
        · rw [put_comm' (fun x hx e => (t1 x e).2 hx), set_comm]
          exact hkj

theorem AWp_alts {P : Program} {n0 : Nat} {Q : Ex → Fr → Hp → Prop} {fr : Fr} {H : Hp} : ∀ (cs : List C), AWp P n0 (alts cs) Q fr H → ∀ c ∈ cs, AWp P n0 c Q fr H
  | [], _, c, hc => by cases hc
  | [c], h, c', hc => by simp at hc; subst hc; exact h
  | c :: c2 :: r, h, c', hc => by
    simp only [alts, AWp] at h
    rcases List.mem_cons.1 hc with rfl | hc
    · exact h.1
    · exact AWp_alts (c2 :: r) h.2 c' hc

theorem orders_any {P : Program} {n0 : Nat} {Q : Ex → Fr → Hp → Prop} {ops : Array Oper} {l : List IOp} : ∀ (n b : Nat) (listed : Array Bool) (fr : Fr) (H : Hp), AWp P n0 (orders l ops n b listed) Q fr H → AAny P ops l (Q .normal) n listed fr H := by
  intro n
  induction n with
  | zero =>
    intro b listed fr H h
    unfold orders at h
    split at h
    · rename_i e; exact ⟨List.isEmpty_iff.1 e, h⟩
    · exact h.elim
  | succ n ih =>
    intro b listed fr H h
    unfold orders at h
    simp only at h
    split at h
    · rename_i e
      have e' := List.isEmpty_iff.1 e
      exact ⟨fun _ => h, fun i hi => by rw [e'] at hi; cases hi⟩
    · split at h
      · rename_i i hi
        refine any_first n listed fr H (List.mem_of_find?_eq_some hi) (by simpa using List.find?_some hi) ?_
        simp only [AWp] at h
        exact AOps1_mono (fun _ _ => rfl) h fun v H' hk => ih _ _ _ _ hk
      · split at h
        · exact h.elim
        · refine ⟨fun e => absurd (List.isEmpty_iff.2 e) (by assumption), fun i hi => ?_⟩
          have := AWp_alts _ h _ (List.mem_map.2 ⟨i, hi, rfl⟩)
          simp only [AWp] at this
          exact AOps1_mono (fun _ _ => rfl) this fun v H' hk => ih _ _ _ _ hk

theorem readyL_iff {ops : Array Oper} {listed : Array Bool} {i : Nat} : i ∈ readyL (waitsL ops) listed.toList ↔ i ∈ Region.ready .any ops listed := by
  unfold readyL waitsL Region.ready
  simp only [List.mem_filter, List.mem_range, List.length_map, Array.length_toList]
  refine and_congr_right fun hi => ?_
  have e : ops[i]? = some ops[i] := Array.getElem?_eq_getElem hi
  have g : ∀ (j : Nat) (b : Bool), listed.toList.getD j b = listed.getD j b := fun j b => by simp [List.getD, Array.getD_eq_getD_getElem?]
  have h1 : (ops.toList.map fun o => (o.after.toList.filter (Region.binds .any)).map (·.on)).getD i [] = ((ops[i]).after.toList.filter (Region.binds .any)).map (·.on) := by
    simp [List.getD, hi]
  rw [h1, e]
  simp only [Option.map_some, Option.getD_some, Bool.and_eq_true, List.all_eq_true, List.mem_map, List.mem_filter, Array.all_eq_true', Bool.or_eq_true, Bool.not_eq_true', g]
  refine and_congr_right fun _ => ⟨fun h ed he => ?_, ?_⟩
  · cases hb : Region.binds .any ed with
    | false => exact .inl rfl
    | true => exact .inr (h _ ⟨ed, ⟨by simpa using he, hb⟩, rfl⟩)
  · rintro h _ ⟨ed, ⟨he, hb⟩, rfl⟩
    rcases h ed (by simpa using he) with h | h
    · rw [hb] at h; cases h
    · exact h

theorem any_inv {P : Program} {ops : Array Oper} {l : List IOp} {K : Fr → Hp → Prop} {Inv : List Bool → Fr → Hp → Prop}
    (hi : ∀ (S : List Bool) (fr : Fr) (H : Hp), S.length = ops.size → Inv S fr H → (readyL (waitsL ops) S = [] → K fr H) ∧ ∀ i ∈ readyL (waitsL ops) S, AOps P [l.getD i badOp] (Inv (S.set i true)) fr H) :
    ∀ (n : Nat) (listed : Array Bool) (fr : Fr) (H : Hp), listed.size = ops.size → listed.toList.count false ≤ n → Inv listed.toList fr H → AAny P ops l K n listed fr H := by
  have nil : ∀ (listed : Array Bool), Region.ready .any ops listed = [] → readyL (waitsL ops) listed.toList = [] := fun listed h => by
    refine List.eq_nil_iff_forall_not_mem.2 fun i hi => ?_
    have := readyL_iff.1 hi
    rw [h] at this; cases this
  intro n
  induction n with
  | zero =>
    intro listed fr H hs hc h
    have he : Region.ready .any ops listed = [] := by
      refine List.eq_nil_iff_forall_not_mem.2 fun i hi => ?_
      obtain ⟨h1, o, ho, -⟩ := mem_ready.1 hi
      have hil : i < listed.size := by rw [hs]; exact (Array.getElem?_eq_some_iff.1 ho).1
      have h2 : listed.toList.count false = 0 := Nat.le_zero.1 hc
      rw [List.count_eq_zero] at h2
      refine h2 ?_
      have h3 : listed.toList[i]'(by simpa using hil) = false := by
        simpa [Array.getD_eq_getD_getElem?, hil] using h1
      rw [← h3]; exact List.getElem_mem _
    exact ⟨he, (hi _ fr H (by simpa using hs) h).1 (nil _ he)⟩
  | succ n ih =>
    intro listed fr H hs hc h
    obtain ⟨h1, h2⟩ := hi _ fr H (by simpa using hs) h
    refine ⟨fun e => h1 (nil _ e), fun i hi => ?_⟩
    refine AOps1_mono (fun _ _ => rfl) (h2 i (readyL_iff.2 hi)) fun v H' hk => ih _ _ _ (by simpa using hs) ?_ (by simpa using hk)
    obtain ⟨hf, o, ho, -⟩ := mem_ready.1 hi
    have hil : i < listed.size := by rw [hs]; exact (Array.getElem?_eq_some_iff.1 ho).1
    have h3 : listed.toList[i]'(by simpa using hil) = false := by
      simpa [Array.getD_eq_getD_getElem?, hil] using hf
    have h4 : (listed.setIfInBounds i true).toList.count false = listed.toList.count false - 1 := by
      rw [Array.toList_setIfInBounds, List.count_set (h := by simpa using hil), h3]; rfl
    have h5 : 0 < listed.toList.count false := List.count_pos_iff.2 (by rw [← h3]; exact List.getElem_mem _)
    omega

theorem awp_sound {P : Program} {κ0 : K} {nt : NT} {n0 : Nat} {tok : List Nat} (hd0 : ∀ i, n0 ≤ i → κ0.β i = .none) : ∀ (code : Code) (Q : Ex → Fr → Hp → Prop) (κ : K) (fr : Fr) (H : Hp) (a : Act) (w : World), κ0.le κ → SR κ nt fr H a w →
    AWp P n0 (compC P nt tok code) Q fr H → code.wp P (Post κ0 nt Q) a w := by
  intro code
  induction code with
  | skip => intro Q κ fr H a w h0 hs h; exact wp_skip ⟨κ, fr, H, .normal, trivial, h0, hs, h⟩
  | region id ops draw =>
    intro Q κ fr H a w h0 hs h
    have hK : ∀ κ fr H a w, κ0.le κ → SR κ nt fr H a w → Q .normal fr H → Post κ0 nt Q .normal a w := fun κ fr H a w h0 hs h => ⟨κ, fr, H, .normal, trivial, h0, hs, h⟩
    cases draw with
    | false =>
      simp only [compC, AWp] at h
      exact wp_region_list (ops_sound hK _ κ fr H a w h0 hs h)
    | true =>
      simp only [compC] at h
      split at h
      · rename_i hok
        simp only [Bool.and_eq_true] at hok
        simp only [AWp] at h
        exact wp_region_any hok.1.2 (draw_sound hK hok.1.1 (w := w.drew) h0 ⟨hs.size, hs.defers, hs.hr.drew, hs.vr⟩ h)
      · split at h
        · rename_i hmix
          simp only [Bool.and_eq_true] at hmix
          simp only [AWp] at h
          obtain ⟨Inv, h1, h2⟩ := h
          have hw : (waitsL ops).length = ops.size := by simp [waitsL]
          rw [hw] at h1 h2
          exact wp_region_any hmix.1 (any_sound hK _ _ κ fr H a w.drew h0 ⟨hs.size, hs.defers, hs.hr.drew, hs.vr⟩ (any_inv h2 _ _ _ _ (by simp) (by simp) (by simpa using h1)))
        split at h
        · rename_i hmix
          exact wp_region_any hmix (any_sound hK _ _ κ fr H a w.drew h0 ⟨hs.size, hs.defers, hs.hr.drew, hs.vr⟩ (orders_any _ _ _ _ _ h))
        · simp [AWp] at h
  | seq x y ihx ihy =>
    intro Q κ fr H a w h0 hs h
    simp only [compC, AWp] at h
    refine wp_seq (wp_mono (ihx _ κ fr H a w h0 hs h) ?_)
    rintro e a' w' ⟨κ', fr', H', e', he, h0', hs', hq⟩
    cases e <;> cases e' <;> simp only [ExR] at he
    · exact ihy _ κ' fr' H' a' w' h0' hs' hq
    · exact ⟨κ', fr', H', .exit _, he, h0', hs', hq⟩
    · exact ⟨κ', fr', H', .ret, trivial, h0', hs', hq⟩
  | cond c x y ihx ihy =>
    intro Q κ fr H a w h0 hs h
    simp only [compC] at h
    split at h
    · rename_i c' hc
      simp only [AWp, ABr] at h
      split at h
      · rename_i t e
        have hv := cArg_sound hc hs
        rw [e] at hv
        refine wp_cond hv.bool_inv ?_
        cases t with
        | true => simp only [if_true] at h ⊢; exact ihx Q κ fr H a w h0 hs h
        | false => simp only [Bool.false_eq_true, if_false] at h ⊢; exact ihy Q κ fr H a w h0 hs h
      · exact h.elim
    · exact h.elim
  | block id c ih =>
    intro Q κ fr H a w h0 hs h
    simp only [compC, AWp] at h
    refine wp_block (wp_mono (ih _ κ fr H a w h0 hs h) ?_)
    rintro e a' w' ⟨κ', fr', H', e', he, h0', hs', hq⟩
    cases e <;> cases e' <;> simp only [ExR] at he
    · exact ⟨κ', fr', H', .normal, trivial, h0', hs', hq⟩
    · rename_i i j
      subst he
      simp only [Ex.blk] at hq
      simp only [Exit.inBlock]
      split at hq
      · rename_i e; rw [if_pos e]; exact ⟨κ', fr', H', .normal, trivial, h0', hs', hq⟩
      · rename_i e; rw [if_neg e]; exact ⟨κ', fr', H', .exit _, rfl, h0', hs', hq⟩
    · exact ⟨κ', fr', H', .ret, trivial, h0', hs', hq⟩
  | loop c ih =>
    intro Q κ fr H a w h0 hs h
    simp only [compC, AWp] at h
    obtain ⟨m, J, μ, hm1, hm2, hJ, hround⟩ := h
    have hcut : ∀ k, m ≤ k → ∀ κ : K, κ0.le κ → κ0.le (κ.cut k) := fun k hk κ h => K.le_cut h fun i hi => hd0 i (by omega)
    refine wp_loop_ghost (fun n a w => ∃ κ fr H, κ0.le κ ∧ SR κ nt fr H a w ∧ J fr H ∧ μ fr H = n) _ ⟨κ.cut m, _, _, hcut m (Nat.le_refl _) κ h0, hs.cut m hm2, hJ, rfl⟩ ?_
    rintro n a w ⟨κ, fr, H, h0, hs, hJ, rfl⟩
    refine wp_mono (ih _ κ fr H a w h0 hs (hround fr H hJ)) ?_
    rintro e a' w' ⟨κ', fr', H', e', he, h0', hs', hq⟩
    cases e <;> cases e' <;> simp only [ExR] at he
    · obtain ⟨k, hk, q1, q2, q3⟩ := hq
      exact ⟨_, q3, κ'.cut k, _, _, hcut k hk κ' h0', hs'.cut k q1, q2, rfl⟩
    · exact ⟨κ', fr', H', .exit _, he, h0', hs', hq⟩
    · exact ⟨κ', fr', H', .ret, trivial, h0', hs', hq⟩
  | exit id => intro Q κ fr H a w h0 hs h; exact wp_exit ⟨κ, fr, H, .exit id, rfl, h0, hs, h⟩
  | ret => intro Q κ fr H a w h0 hs h; exact wp_ret ⟨κ, fr, H, .ret, trivial, h0, hs, h⟩
  | _ => intro Q κ fr H a w h0 hs h; exact h.elim

inductive Res where
  | t (s : Nat)
  | cell (s n : Nat) (agg : Bool)

structure IFn where
  nt : Nat
  res : List Res
  body : C

def compRes (P : Program) : ResultVar → Option Res
  | .tmp t => some (.t t)
  | .cell a t => match P.underlying t, P.info? t with
    | some d, some i => if isAggD d then some (.cell a i.size true) else some (.cell a 1 false)
    | _, _ => none

def compF (P : Program) (tok : List Nat) (fn : Func) : Option IFn :=
  match fn.body, fn.results.toList.mapM (compRes P) with
  | some c, some rs => some { nt := fn.ntmps, res := rs, body := compC P fn.ntmps tok c }
  | _, _ => none

def resA1 (fr : Fr) (H : Hp) : Res → Option A
  | .t s => some (fr s)
  | .cell s n agg => (ldA H n (fr s)).map fun cs => if agg then .agg cs else cs.headD .undef

def resA (fr : Fr) (H : Hp) (rs : List Res) : Option A :=
  (rs.mapM (resA1 fr H)).map fun
    | [x] => x
    | xs => .tup xs

def Fr.init (args : List A) : Fr := fun s => (args[s]?).getD (.tup [])

def Ret (res : List Res) (n0 : Nat) (K : A → Hp → Prop) : Ex → Fr → Hp → Prop
  | .exit _, _, _ => False
  | _, fr, H => ∃ x m, resA fr H res = some x ∧ n0 ≤ m ∧ m ≤ H.length ∧ K (x.clr m) (Hp.cut m H)

def resSem (tmps : Array Value) : ResultVar → Sem Value
  | .tmp t => pure (tmps.getD t undef)
  | .cell b t => do loadVar t (← asAddr (tmps.getD b undef))

theorem run_results {P : Program} {κ : K} {nt : NT} {fr : Fr} {H : Hp} {a : Act} {w : World} (hs : SR κ nt fr H a w) : ∀ (l : List ResultVar) (rs : List Res) (xs : List A), l.mapM (compRes P) = some rs → rs.mapM (resA1 fr H) = some xs →
    ∃ vs : List Value, (l.mapM (resSem a.tmps)).run P w = .ok vs w ∧ vs.length = xs.length ∧ ∀ (i : Nat) (v : Value) (x : A), vs[i]? = some v → xs[i]? = some x → VR κ v x := by
  intro l
  induction l with
  | nil => intro rs xs h h'; simp at h; subst h; simp at h'; subst h'; exact ⟨[], by simp, rfl, by simp⟩
  | cons r l ih =>
    intro rs xs h h'
    simp only [List.mapM_cons, Option.bind_eq_bind, Option.bind_eq_some_iff, Option.pure_def, Option.some.injEq] at h
    obtain ⟨r', hr', rs', hrs', rfl⟩ := h
    simp only [List.mapM_cons, Option.bind_eq_bind, Option.bind_eq_some_iff, Option.pure_def, Option.some.injEq] at h'
    obtain ⟨x, hx, xs', hxs', rfl⟩ := h'
    obtain ⟨vs, h1, h2, h3⟩ := ih rs' xs' hrs' hxs'
    have one : ∃ v, (resSem a.tmps r).run P w = .ok v w ∧ VR κ v x := by
      cases r with
      | tmp t =>
        simp only [compRes, Option.some.injEq] at hr'
        subst hr'
        simp only [resA1, Option.some.injEq] at hx
        subst hx
        exact ⟨_, rfl, hs.vr t⟩
      | cell b t =>
        simp only [compRes] at hr'
        split at hr'
        · rename_i d i hd hi
          cases hagg : isAggD d with
          | true =>
            rw [hagg] at hr'
            simp only [if_true, Option.some.injEq] at hr'
            subst hr'
            simp only [resA1, Option.map_eq_some_iff, if_true] at hx
            obtain ⟨cs, hcs, rfl⟩ := hx
            obtain ⟨ad, us, e1, e2, e3, e4, e5⟩ := ld_sound hs.hr hcs (hs.vr b)
            refine ⟨.agg us.toArray, ?_, .agg us cs (by omega) e5⟩
            simp only [resSem, e1]
            have hld := run_loadCells_list (P := P) w ad us e4
            rw [e2] at hld
            simp [asAddr, loadVar, run_isAgg hd, hagg, sizeOf, typeInfo, hi, hld]
          | false =>
            rw [hagg] at hr'
            simp only [Bool.false_eq_true, if_false, Option.some.injEq] at hr'
            subst hr'
            simp only [resA1, Option.map_eq_some_iff, Bool.false_eq_true, if_false] at hx
            obtain ⟨cs, hcs, rfl⟩ := hx
            obtain ⟨ad, us, e1, e2, e3, e4, e5⟩ := ld_sound hs.hr hcs (hs.vr b)
            match us, e2, cs, e3 with
            | [u], _, [c], _ =>
              refine ⟨u, ?_, e5 0 u c rfl rfl⟩
              simp only [resSem, e1]
              have h40 := e4 0 u rfl
              have hadd : ad.add 0 = ad := by simp [Addr.add]
              rw [hadd] at h40
              simp [asAddr, loadVar, run_isAgg hd, hagg, h40]
        · cases hr'
    obtain ⟨v, hv1, hv2⟩ := one
    refine ⟨v :: vs, ?_, by simp [h2], fun i u y hu hy => ?_⟩
    · simp only [List.mapM_cons, Sem.run_bind, hv1, Result.andThen_ok, h1, Sem.run_pure]
    · cases i with
      | zero => simp at hu hy; subst hu; subst hy; exact hv2
      | succ i => exact h3 i u y (by simpa using hu) (by simpa using hy)

theorem acall_of {P : Program} {f : FuncId} {fn : Func} {tok : List Nat} {ifn : IFn} {args : List A} {H : Hp} {K : A → Hp → Prop} (hf : P.funcs[f]? = some fn) (hc : compF P tok fn = some ifn) (hn : args.length ≤ ifn.nt)
    (h : H.Closed → (∀ a ∈ args, a.flat0 = true → a.lo H.length = true) → AWp P H.length ifn.body (Ret ifn.res H.length K) (Fr.init args) H) : ACall P f args H K := by
  intro κ w vs hr hl hv
  unfold compF at hc
  split at hc
  · rename_i c rs hb hrs
    cases hc
    refine calls_of_wp hf hb ?_
    have hvs : ∀ i v, vs[i]? = some v → ∃ a, args[i]? = some a ∧ VR κ v a := fun i v hi => by
      have : i < args.length := by rw [← hl]; exact (List.getElem?_eq_some_iff.1 hi).1
      exact ⟨args[i], List.getElem?_eq_getElem this, hv i v _ hi (List.getElem?_eq_getElem this)⟩
    have hlo : ∀ a ∈ args, a.flat0 = true → a.lo H.length = true := fun a ha hf => by
      obtain ⟨i, hi, rfl⟩ := List.getElem_of_mem ha
      exact (hv i (vs[i]'(by omega)) _ (List.getElem?_eq_getElem _) (List.getElem?_eq_getElem hi)).lo_of hr.dom hf
    have hs : SR κ ⟨fn.ntmps, []⟩ (Fr.init args) H { tmps := vs.toArray ++ Array.replicate (fn.ntmps - vs.toArray.size) undef, defers := [] } w := by
      refine ⟨by simp only [Array.size_append, List.size_toArray, Array.size_replicate]; simp only at hn; omega, rfl, hr, fun s => ?_⟩
      simp only [Fr.init]
      by_cases hlt : s < args.length
      · have hlt' : s < vs.length := by omega
        rw [Array.getD_eq_getD_getElem?, Array.getElem?_append_left (by simpa using hlt')]
        simp only [List.getElem?_toArray, List.getElem?_eq_getElem hlt', List.getElem?_eq_getElem hlt, Option.getD_some]
        exact hv s _ _ (List.getElem?_eq_getElem hlt') (List.getElem?_eq_getElem hlt)
      · rw [List.getElem?_eq_none (by omega), Array.getD_eq_getD_getElem?, Array.getElem?_append_right (by simpa using (by omega : vs.length ≤ s))]
        have : ((Array.replicate (fn.ntmps - vs.toArray.size) undef)[s - vs.toArray.size]?).getD undef = undef := by
          by_cases h2 : s - vs.toArray.size < fn.ntmps - vs.toArray.size
          · rw [Array.getElem?_replicate, if_pos h2]; rfl
          · rw [Array.getElem?_replicate, if_neg h2]; rfl
        rw [this]
        exact .tup [] [] rfl (by simp)
    refine wp_mono (awp_sound hr.dom c _ κ _ H _ w (Zam.K.le_refl κ) hs (h hr.closed hlo)) ?_
    rintro e a' w' ⟨κ', fr', H', e', he, h0', hs', hq⟩
    have fin : (∃ x m, resA fr' H' rs = some x ∧ H.length ≤ m ∧ m ≤ H'.length ∧ K (x.clr m) (Hp.cut m H')) → a'.defers = [] ∧ ∃ v, (results fn a'.tmps).run P w' = .ok v w' ∧
        ∃ v1 κ1 x1 H1, Ending.returned v = .returned v1 ∧ κ.le κ1 ∧ HR κ1 H1 w' ∧ VR κ1 v1 x1 ∧ K x1 H1 := by
      rintro ⟨x, m, hx, hm1, hm2, hk⟩
      refine ⟨hs'.defers, ?_⟩
      simp only [resA, Option.map_eq_some_iff] at hx
      obtain ⟨xs, hxs, hx⟩ := hx
      obtain ⟨us, h1, h2, h3⟩ := run_results hs' _ _ _ hrs hxs
      have hrun : (fn.results.mapM (resSem a'.tmps)).run P w' = .ok us.toArray w' := by
        rw [Array.mapM_eq_mapM_toList]
        simp only [Sem.run_map, h1, Result.andThen_ok]
      have hres : (results fn a'.tmps).run P w' = .ok (if h : us.toArray.size = 1 then us.toArray[0] else .tuple us.toArray) w' := by
        have e0 : results fn a'.tmps = (do let vs ← fn.results.mapM (resSem a'.tmps); pure (if h : vs.size = 1 then vs[0] else .tuple vs)) := rfl
        rw [e0]
        simp only [Sem.run_bind]
        rw [hrun]
        rfl
      refine ⟨_, hres, _, κ'.cut m, x.clr m, Hp.cut m H', rfl, Zam.K.le_cut h0' fun i hi => hr.dom i (by omega), hs'.hr.cut m hm2, ?_, hk⟩
      refine VR.clr m ?_
      clear hxs h1 hrun hres
      match xs, us, h2, hx, h3 with
      | [y], [u], _, hx, h3 => subst hx; exact h3 0 u y rfl rfl
      | [], [], _, hx, _ => subst hx; exact .tup [] [] rfl (by simp)
      | y1 :: y2 :: ys, u1 :: u2 :: us', hl2, hx, h3 =>
        subst hx
        rw [dif_neg (by simp)]
        exact .tup _ _ hl2 h3
    cases e <;> cases e' <;> simp only [ExR] at he
    · exact fin hq
    · exact hq.elim
    · exact fin hq
  · cases hc

end Go.Zam

namespace Go.Zam

universe u
inductive Tag {α : Sort u} (x : α) : Type where
  | mk

/-- what follows a step that yields something -/
def OptK (K : A → Hp → Prop) (_ : Tag K) (o : Option (A × Hp)) : Prop :=
  match o with
  | some (v, H) => K v H
  | none => False
def GdK (T F : Fr → Prop) (_ : Tag T) (_ : Tag F) (fr : Fr) (b : Bool) (_ : Nat) (x : A) : Prop := AGd x fr b T F
def BrK (T F : Prop) (_ : Tag T) (_ : Tag F) (x : A) : Prop := ABr x T F
def CallK (Q : A → Hp → Prop) (_ : Tag Q) (P : Program) (f : FuncId) (l : List A) (H : Hp) : Prop := ACall P f l H Q
def CallD (Q : A → Hp → Prop) (_ : Tag Q) (P : Program) (f : FuncId) (l : List A) (H : Hp) : Prop := ∃ v, ACall P f l H (fun v' H' => v' = v ∧ H' = H) ∧ Q v H
def CallE (Q : A → Hp → Prop) (_ : Tag Q) (P : Program) (f : FuncId) (l : List A) (H : Hp) : Prop := ∃ v H1, ACall P f l H (fun v' H' => v' = v ∧ H' = H1) ∧ Q v H1
def ValK (Q : A → Hp → Prop) (_ : Tag Q) (P : Program) (l : List A) (H : Hp) (f : A) : Prop :=
  match f with
  | .d (.fn g) => callOk P g = true ∧ ACall P g l H Q
  | .fn (.func g) first cap => callOk P g = true ∧ ACall P g (first ++ l ++ cap) H Q
  | _ => False
def ValD (Q : A → Hp → Prop) (_ : Tag Q) (P : Program) (l : List A) (H : Hp) (f : A) : Prop :=
  match f with
  | .d (.fn g) => callOk P g = true ∧ ∃ v, ACall P g l H (fun v' H' => v' = v ∧ H' = H) ∧ Q v H
  | .fn (.func g) first cap => callOk P g = true ∧ ∃ v, ACall P g (first ++ l ++ cap) H (fun v' H' => v' = v ∧ H' = H) ∧ Q v H
  | _ => False
def AnyK (Q : Ex → Fr → Hp → Prop) (l : List IOp) (w : List (List Nat)) (_ : Tag (Q, l, w)) (P : Program) (n0 : Nat) (fr : Fr) (H : Hp) : Prop := AWp P n0 (.any l w) Q fr H
def LoopK (Q : Ex → Fr → Hp → Prop) (c : C) (_ : Tag (Q, c)) (P : Program) (n0 : Nat) (fr : Fr) (H : Hp) : Prop := AWp P n0 (.loop c) Q fr H
def AgainK (J : Fr → Hp → Prop) (μ : Fr → Hp → Nat) (_ : Tag (J, μ)) (m n : Nat) (fr : Fr) (H : Hp) : Prop := Again m J μ n fr H
def RetK (K : A → Hp → Prop) (_ : Tag K) (n0 : Nat) (o : Option A) (H : Hp) : Prop :=
  match o with
  | some x => n0 ≤ H.length ∧ K (x.clr n0) (Hp.cut n0 H)
  | none => False

@[congr] theorem OptK_congr {o o' : Option (A × Hp)} {K : A → Hp → Prop} {t : Tag K} (h : o = o') : OptK K t o = OptK K t o' := by rw [h]
@[congr] theorem GdK_congr {T F : Fr → Prop} {t : Tag T} {u : Tag F} {fr fr' : Fr} {b : Bool} {s : Nat} {x x' : A} (h : x = x') (h2 : fr = fr') : GdK T F t u fr b s x = GdK T F t u fr' b s x' := by rw [h, h2]
@[congr] theorem BrK_congr {T F : Prop} {t : Tag T} {u : Tag F} {x x' : A} (h : x = x') : BrK T F t u x = BrK T F t u x' := by rw [h]
@[congr] theorem CallK_congr {Q : A → Hp → Prop} {t : Tag Q} {P : Program} {f : FuncId} {l l' : List A} {H H' : Hp} (h : l = l') (h2 : H = H') : CallK Q t P f l H = CallK Q t P f l' H' := by rw [h, h2]
@[congr] theorem CallD_congr {Q : A → Hp → Prop} {t : Tag Q} {P : Program} {f : FuncId} {l l' : List A} {H H' : Hp} (h : l = l') (h2 : H = H') : CallD Q t P f l H = CallD Q t P f l' H' := by rw [h, h2]
@[congr] theorem CallE_congr {Q : A → Hp → Prop} {t : Tag Q} {P : Program} {f : FuncId} {l l' : List A} {H H' : Hp} (h : l = l') (h2 : H = H') : CallE Q t P f l H = CallE Q t P f l' H' := by rw [h, h2]
@[congr] theorem ValK_congr {Q : A → Hp → Prop} {t : Tag Q} {P : Program} {f f' : A} {l l' : List A} {H H' : Hp} (h : l = l') (h2 : H = H') (h3 : f = f') : ValK Q t P l H f = ValK Q t P l' H' f' := by rw [h, h2, h3]
@[congr] theorem ValD_congr {Q : A → Hp → Prop} {t : Tag Q} {P : Program} {f f' : A} {l l' : List A} {H H' : Hp} (h : l = l') (h2 : H = H') (h3 : f = f') : ValD Q t P l H f = ValD Q t P l' H' f' := by rw [h, h2, h3]
@[congr] theorem LoopK_congr {Q : Ex → Fr → Hp → Prop} {c : C} {t : Tag (Q, c)} {P : Program} {n0 : Nat} {fr fr' : Fr} {H H' : Hp} (h : fr = fr') (h2 : H = H') : LoopK Q c t P n0 fr H = LoopK Q c t P n0 fr' H' := by rw [h, h2]
@[congr] theorem AnyK_congr {Q : Ex → Fr → Hp → Prop} {l : List IOp} {w : List (List Nat)} {t : Tag (Q, l, w)} {P : Program} {n0 : Nat} {fr fr' : Fr} {H H' : Hp} (h : fr = fr') (h2 : H = H') : AnyK Q l w t P n0 fr H = AnyK Q l w t P n0 fr' H' := by rw [h, h2]
@[congr] theorem AgainK_congr {J : Fr → Hp → Prop} {μ : Fr → Hp → Nat} {t : Tag (J, μ)} {m n : Nat} {fr fr' : Fr} {H H' : Hp} (h : fr = fr') (h2 : H = H') : AgainK J μ t m n fr H = AgainK J μ t m n fr' H' := by rw [h, h2]
@[congr] theorem RetK_congr {K : A → Hp → Prop} {t : Tag K} {n0 : Nat} {o o' : Option A} {H H' : Hp} (h : o = o') (h2 : H = H') : RetK K t n0 o H = RetK K t n0 o' H' := by rw [h, h2]

section
variable {P : Program} {n0 : Nat} {Q : Ex → Fr → Hp → Prop} {fr : Fr} {H : Hp}

@[simp] theorem OptK_some {K : A → Hp → Prop} {t : Tag K} (v : A) (H : Hp) : OptK K t (some (v, H)) = K v H := propext Iff.rfl

@[simp ↓] theorem AWp_skip : AWp P n0 .skip Q fr H = Q .normal fr H := propext Iff.rfl
@[simp ↓] theorem AWp_ops (l : List IOp) : AWp P n0 (.ops l false) Q fr H = AOps P l (Q .normal) fr H := propext Iff.rfl
@[simp ↓] theorem AWp_draw (l : List IOp) : AWp P n0 (.ops l true) Q fr H = ADraw P l (Q .normal) fr H := propext Iff.rfl
@[simp ↓] theorem AWp_both (a b : C) : AWp P n0 (.both a b) Q fr H = (AWp P n0 a Q fr H ∧ AWp P n0 b Q fr H) := propext Iff.rfl
@[simp ↓] theorem AWp_seq (a b : C) : AWp P n0 (.seq a b) Q fr H = AWp P n0 a (Ex.then (AWp P n0 b Q) Q) fr H := propext Iff.rfl
@[simp ↓] theorem AWp_cond (c : Arg) (a b : C) : AWp P n0 (.cond c a b) Q fr H = BrK (AWp P n0 a Q fr H) (AWp P n0 b Q fr H) .mk .mk (c.ev fr) := propext Iff.rfl
@[simp ↓] theorem AWp_blk (i : Nat) (c : C) : AWp P n0 (.blk i c) Q fr H = AWp P n0 c (Ex.blk i Q) fr H := propext Iff.rfl
@[simp ↓] theorem AWp_exit (i : Nat) : AWp P n0 (.exit i) Q fr H = Q (.exit i) fr H := propext Iff.rfl
@[simp ↓] theorem AWp_ret : AWp P n0 .ret Q fr H = Q .ret fr H := propext Iff.rfl
@[simp ↓] theorem AWp_loop_eq (c : C) : AWp P n0 (.loop c) Q fr H = LoopK Q c .mk P n0 fr H := propext Iff.rfl

@[simp ↓] theorem AWp_any_eq (l : List IOp) (w : List (List Nat)) : AWp P n0 (.any l w) Q fr H = AnyK Q l w .mk P n0 fr H := propext Iff.rfl
/-- an open order, told by what holds where some are done -/
theorem AnyK_of {l : List IOp} {w : List (List Nat)} {t : Tag (Q, l, w)} (Inv : List Bool → Fr → Hp → Prop) (h0 : Inv (List.replicate w.length false) fr H)
    (h1 : ∀ (S : List Bool) (fr : Fr) (H : Hp), S.length = w.length → Inv S fr H → (readyL w S = [] → Q .normal fr H) ∧ ∀ i ∈ readyL w S, AOps P [l.getD i badOp] (Inv (S.set i true)) fr H) : AnyK Q l w t P n0 fr H :=
  ⟨Inv, h0, h1⟩

@[simp ↓] theorem then_normal {K : Fr → Hp → Prop} : Ex.then K Q .normal fr H = K fr H := propext Iff.rfl
@[simp ↓] theorem then_exit {K : Fr → Hp → Prop} (i : Nat) : Ex.then K Q (.exit i) fr H = Q (.exit i) fr H := propext Iff.rfl
@[simp ↓] theorem then_ret {K : Fr → Hp → Prop} : Ex.then K Q .ret fr H = Q .ret fr H := propext Iff.rfl
@[simp ↓] theorem blk_normal (i : Nat) : Ex.blk i Q .normal fr H = Q .normal fr H := propext Iff.rfl
@[simp ↓] theorem blk_ret (i : Nat) : Ex.blk i Q .ret fr H = Q .ret fr H := propext Iff.rfl
@[simp ↓] theorem blk_exit (i j : Nat) : Ex.blk i Q (.exit j) fr H = if j = i then Q .normal fr H else Q (.exit j) fr H := propext Iff.rfl

@[simp ↓] theorem Again_eq (m : Nat) (J : Fr → Hp → Prop) (μ : Fr → Hp → Nat) (n : Nat) : Again m J μ n fr H = AgainK J μ .mk m n fr H := propext Iff.rfl

@[simp ↓] theorem AOps_nil {K : Fr → Hp → Prop} : AOps P [] K fr H = K fr H := propext Iff.rfl
@[simp ↓] theorem ADraw_nil {K : Fr → Hp → Prop} : ADraw P [] K fr H = K fr H := propext Iff.rfl
@[simp ↓] theorem AOps_guard {K : Fr → Hp → Prop} (d : Option Nat) (s : Nat) (b : Bool) (i : I) (r : List IOp) : AOps P (⟨d, some (s, b), i⟩ :: r) K fr H =
    GdK (fun fr => AOps P (⟨d, none, i⟩ :: r) K fr H) (fun fr => AOps P r K (fr.put d (.tup [])) H) .mk .mk fr b s (fr s) := propext Iff.rfl
@[simp ↓] theorem ADraw_guard {K : Fr → Hp → Prop} (d : Option Nat) (s : Nat) (b : Bool) (i : I) (r : List IOp) : ADraw P (⟨d, some (s, b), i⟩ :: r) K fr H =
    GdK (fun fr => ADraw P (⟨d, none, i⟩ :: r) K fr H) (fun fr => ADraw P r K (fr.put d (.tup [])) H) .mk .mk fr b s (fr s) := propext Iff.rfl
@[simp ↓] theorem AOps_call {K : Fr → Hp → Prop} (d : Option Nat) (f : FuncId) (l : List Arg) (r : List IOp) : AOps P (⟨d, none, .call f l⟩ :: r) K fr H =
    CallK (fun v H' => AOps P r K (fr.put d v) H') .mk P f (l.map (Arg.ev fr)) H := propext Iff.rfl
@[simp ↓] theorem ADraw_call {K : Fr → Hp → Prop} (d : Option Nat) (f : FuncId) (l : List Arg) (r : List IOp) : ADraw P (⟨d, none, .call f l⟩ :: r) K fr H =
    CallD (fun v H' => ADraw P r K (fr.put d v) H') .mk P f (l.map (Arg.ev fr)) H := propext Iff.rfl
@[simp ↓] theorem AOps_callE {K : Fr → Hp → Prop} (d : Option Nat) (f : FuncId) (l : List Arg) (r : List IOp) : AOps P (⟨d, none, .callE f l⟩ :: r) K fr H =
    CallK (fun v H' => AOps P r K (fr.put d v) H') .mk P f (l.map (Arg.ev fr)) H := propext Iff.rfl
@[simp ↓] theorem ADraw_callE {K : Fr → Hp → Prop} (d : Option Nat) (f : FuncId) (l : List Arg) (r : List IOp) : ADraw P (⟨d, none, .callE f l⟩ :: r) K fr H =
    CallE (fun v H' => ADraw P r K (fr.put d v) H') .mk P f (l.map (Arg.ev fr)) H := propext Iff.rfl
@[simp ↓] theorem AOps_callv {K : Fr → Hp → Prop} (d : Option Nat) (f : Arg) (l : List Arg) (r : List IOp) : AOps P (⟨d, none, .callv f l⟩ :: r) K fr H =
    ValK (fun v H' => AOps P r K (fr.put d v) H') .mk P (l.map (Arg.ev fr)) H (f.ev fr) := by
  simp only [AOps, runI, ValK]; rfl
@[simp ↓] theorem ADraw_callv {K : Fr → Hp → Prop} (d : Option Nat) (f : Arg) (l : List Arg) (r : List IOp) : ADraw P (⟨d, none, .callv f l⟩ :: r) K fr H =
    ValD (fun v H' => ADraw P r K (fr.put d v) H') .mk P (l.map (Arg.ev fr)) H (f.ev fr) := by
  simp only [ADraw, runD, ValD]; rfl
@[simp ↓] theorem AOps_mv {K : Fr → Hp → Prop} (d : Option Nat) (x : Arg) (r : List IOp) : AOps P (⟨d, none, .mv x⟩ :: r) K fr H =
    OptK (fun v H' => AOps P r K (fr.put d v) H') .mk (stepI fr H (.mv x)) := propext Iff.rfl
@[simp ↓] theorem AOps_nilT {K : Fr → Hp → Prop} (d : Option Nat) (n e : Nat) (r : List IOp) : AOps P (⟨d, none, .nilT n e⟩ :: r) K fr H =
    OptK (fun v H' => AOps P r K (fr.put d v) H') .mk (stepI fr H (.nilT n e)) := propext Iff.rfl
@[simp ↓] theorem AOps_nilW {K : Fr → Hp → Prop} (d : Option Nat) (n e : Nat) (r : List IOp) : AOps P (⟨d, none, .nilW n e⟩ :: r) K fr H =
    OptK (fun v H' => AOps P r K (fr.put d v) H') .mk (stepI fr H (.nilW n e)) := propext Iff.rfl
@[simp ↓] theorem AOps_pick {K : Fr → Hp → Prop} (d : Option Nat) (a b c : Arg) (r : List IOp) : AOps P (⟨d, none, .pick a b c⟩ :: r) K fr H =
    OptK (fun v H' => AOps P r K (fr.put d v) H') .mk (stepI fr H (.pick a b c)) := propext Iff.rfl
@[simp ↓] theorem AOps_alloc {K : Fr → Hp → Prop} (d : Option Nat) (ty : TypeId) (cs : List D) (r : List IOp) : AOps P (⟨d, none, .alloc ty cs⟩ :: r) K fr H =
    OptK (fun v H' => AOps P r K (fr.put d v) H') .mk (stepI fr H (.alloc ty cs)) := propext Iff.rfl
@[simp ↓] theorem AOps_box {K : Fr → Hp → Prop} (d : Option Nat) (ty n : Nat) (x : Arg) (r : List IOp) : AOps P (⟨d, none, .box ty n x⟩ :: r) K fr H =
    OptK (fun v H' => AOps P r K (fr.put d v) H') .mk (stepI fr H (.box ty n x)) := propext Iff.rfl
@[simp ↓] theorem AOps_allocU {K : Fr → Hp → Prop} (d : Option Nat) (ty : TypeId) (cs : List D) (ts : List (Nat × Nat × TypeId)) (r : List IOp) : AOps P (⟨d, none, .allocU ty cs ts⟩ :: r) K fr H =
    OptK (fun v H' => AOps P r K (fr.put d v) H') .mk (stepI fr H (.allocU ty cs ts)) := propext Iff.rfl
@[simp ↓] theorem AOps_allocT {K : Fr → Hp → Prop} (d : Option Nat) (ty : TypeId) (cs : List D) (j sz e : Nat) (r : List IOp) : AOps P (⟨d, none, .allocT ty cs j sz e⟩ :: r) K fr H =
    OptK (fun v H' => AOps P r K (fr.put d v) H') .mk (stepI fr H (.allocT ty cs j sz e)) := propext Iff.rfl
@[simp ↓] theorem AOps_load {K : Fr → Hp → Prop} (d : Option Nat) (n : Nat) (g : Bool) (p : Arg) (r : List IOp) : AOps P (⟨d, none, .load n g p⟩ :: r) K fr H =
    OptK (fun v H' => AOps P r K (fr.put d v) H') .mk (stepI fr H (.load n g p)) := propext Iff.rfl
@[simp ↓] theorem AOps_store {K : Fr → Hp → Prop} (d : Option Nat) (n : Nat) (p v : Arg) (r : List IOp) : AOps P (⟨d, none, .store n p v⟩ :: r) K fr H =
    OptK (fun v H' => AOps P r K (fr.put d v) H') .mk (stepI fr H (.store n p v)) := propext Iff.rfl
@[simp ↓] theorem AOps_nilCheck {K : Fr → Hp → Prop} (d : Option Nat) (x : Arg) (r : List IOp) : AOps P (⟨d, none, .nilCheck x⟩ :: r) K fr H =
    OptK (fun v H' => AOps P r K (fr.put d v) H') .mk (stepI fr H (.nilCheck x)) := propext Iff.rfl
@[simp ↓] theorem AOps_bin {K : Fr → Hp → Prop} (d : Option Nat) (op : BinOp) (x y : Arg) (r : List IOp) : AOps P (⟨d, none, .bin op x y⟩ :: r) K fr H =
    OptK (fun v H' => AOps P r K (fr.put d v) H') .mk (stepI fr H (.bin op x y)) := propext Iff.rfl
@[simp ↓] theorem AOps_beq {K : Fr → Hp → Prop} (d : Option Nat) (b : Bool) (x y : Arg) (r : List IOp) : AOps P (⟨d, none, .beq b x y⟩ :: r) K fr H =
    OptK (fun v H' => AOps P r K (fr.put d v) H') .mk (stepI fr H (.beq b x y)) := propext Iff.rfl
@[simp ↓] theorem AOps_isNilS {K : Fr → Hp → Prop} (d : Option Nat) (b : Bool) (x : Arg) (r : List IOp) : AOps P (⟨d, none, .isNilS b x⟩ :: r) K fr H =
    OptK (fun v H' => AOps P r K (fr.put d v) H') .mk (stepI fr H (.isNilS b x)) := propext Iff.rfl
@[simp ↓] theorem AOps_isNilP {K : Fr → Hp → Prop} (d : Option Nat) (b : Bool) (x : Arg) (r : List IOp) : AOps P (⟨d, none, .isNilP b x⟩ :: r) K fr H =
    OptK (fun v H' => AOps P r K (fr.put d v) H') .mk (stepI fr H (.isNilP b x)) := propext Iff.rfl
@[simp ↓] theorem AOps_un {K : Fr → Hp → Prop} (d : Option Nat) (op : UnOp) (x : Arg) (r : List IOp) : AOps P (⟨d, none, .un op x⟩ :: r) K fr H =
    OptK (fun v H' => AOps P r K (fr.put d v) H') .mk (stepI fr H (.un op x)) := propext Iff.rfl
@[simp ↓] theorem AOps_cvt {K : Fr → Hp → Prop} (d : Option Nat) (k : IntKind) (x : Arg) (r : List IOp) : AOps P (⟨d, none, .cvt k x⟩ :: r) K fr H =
    OptK (fun v H' => AOps P r K (fr.put d v) H') .mk (stepI fr H (.cvt k x)) := propext Iff.rfl
@[simp ↓] theorem AOps_cvtBS {K : Fr → Hp → Prop} (d : Option Nat) (x : Arg) (r : List IOp) : AOps P (⟨d, none, .cvtBS x⟩ :: r) K fr H =
    OptK (fun v H' => AOps P r K (fr.put d v) H') .mk (stepI fr H (.cvtBS x)) := propext Iff.rfl
@[simp ↓] theorem AOps_cvtS {K : Fr → Hp → Prop} (d : Option Nat) (x : Arg) (r : List IOp) : AOps P (⟨d, none, .cvtS x⟩ :: r) K fr H =
    OptK (fun v H' => AOps P r K (fr.put d v) H') .mk (stepI fr H (.cvtS x)) := propext Iff.rfl
@[simp ↓] theorem AOps_faddr {K : Fr → Hp → Prop} (d : Option Nat) (n : Nat) (x : Arg) (r : List IOp) : AOps P (⟨d, none, .faddr n x⟩ :: r) K fr H =
    OptK (fun v H' => AOps P r K (fr.put d v) H') .mk (stepI fr H (.faddr n x)) := propext Iff.rfl
@[simp ↓] theorem AOps_fld {K : Fr → Hp → Prop} (d : Option Nat) (o n : Nat) (g : Bool) (x : Arg) (r : List IOp) : AOps P (⟨d, none, .fld o n g x⟩ :: r) K fr H =
    OptK (fun v H' => AOps P r K (fr.put d v) H') .mk (stepI fr H (.fld o n g x)) := propext Iff.rfl
@[simp ↓] theorem AOps_iaddr {K : Fr → Hp → Prop} (d : Option Nat) (n : Nat) (x y : Arg) (r : List IOp) : AOps P (⟨d, none, .iaddr n x y⟩ :: r) K fr H =
    OptK (fun v H' => AOps P r K (fr.put d v) H') .mk (stepI fr H (.iaddr n x y)) := propext Iff.rfl
@[simp ↓] theorem AOps_sidx {K : Fr → Hp → Prop} (d : Option Nat) (x y : Arg) (r : List IOp) : AOps P (⟨d, none, .sidx x y⟩ :: r) K fr H =
    OptK (fun v H' => AOps P r K (fr.put d v) H') .mk (stepI fr H (.sidx x y)) := propext Iff.rfl
@[simp ↓] theorem AOps_aidx {K : Fr → Hp → Prop} (d : Option Nat) (n : Nat) (x y : Arg) (r : List IOp) : AOps P (⟨d, none, .aidx n x y⟩ :: r) K fr H =
    OptK (fun v H' => AOps P r K (fr.put d v) H') .mk (stepI fr H (.aidx n x y)) := propext Iff.rfl
@[simp ↓] theorem AOps_sslice {K : Fr → Hp → Prop} (d : Option Nat) (x : Arg) (l h : Option Arg) (r : List IOp) : AOps P (⟨d, none, .sslice x l h⟩ :: r) K fr H =
    OptK (fun v H' => AOps P r K (fr.put d v) H') .mk (stepI fr H (.sslice x l h)) := propext Iff.rfl
@[simp ↓] theorem AOps_slice {K : Fr → Hp → Prop} (d : Option Nat) (n : Nat) (x : Arg) (l h m : Option Arg) (r : List IOp) : AOps P (⟨d, none, .slice n x l h m⟩ :: r) K fr H =
    OptK (fun v H' => AOps P r K (fr.put d v) H') .mk (stepI fr H (.slice n x l h m)) := propext Iff.rfl
@[simp ↓] theorem AOps_build {K : Fr → Hp → Prop} (d : Option Nat) (z : List D) (ps : List (Nat × Nat × Arg)) (r : List IOp) : AOps P (⟨d, none, .build z ps⟩ :: r) K fr H =
    OptK (fun v H' => AOps P r K (fr.put d v) H') .mk (stepI fr H (.build z ps)) := propext Iff.rfl
@[simp ↓] theorem AOps_buildT {K : Fr → Hp → Prop} (d : Option Nat) (ts : List (Nat × Nat × TypeId)) (z : List D) (ps : List (Nat × Nat × Arg)) (r : List IOp) : AOps P (⟨d, none, .buildT ts z ps⟩ :: r) K fr H =
    OptK (fun v H' => AOps P r K (fr.put d v) H') .mk (stepI fr H (.buildT ts z ps)) := propext Iff.rfl
@[simp ↓] theorem AOps_bslice {K : Fr → Hp → Prop} (d : Option Nat) (n : Nat) (ps : List Arg) (r : List IOp) : AOps P (⟨d, none, .bslice n ps⟩ :: r) K fr H =
    OptK (fun v H' => AOps P r K (fr.put d v) H') .mk (stepI fr H (.bslice n ps)) := propext Iff.rfl
@[simp ↓] theorem AOps_bsliceT {K : Fr → Hp → Prop} (d : Option Nat) (n e : Nat) (ps : List Arg) (r : List IOp) : AOps P (⟨d, none, .bsliceT n e ps⟩ :: r) K fr H =
    OptK (fun v H' => AOps P r K (fr.put d v) H') .mk (stepI fr H (.bsliceT n e ps)) := propext Iff.rfl
@[simp ↓] theorem AOps_bsliceV {K : Fr → Hp → Prop} (d : Option Nat) (n e : Nat) (ps : List Arg) (r : List IOp) : AOps P (⟨d, none, .bsliceV n e ps⟩ :: r) K fr H =
    OptK (fun v H' => AOps P r K (fr.put d v) H') .mk (stepI fr H (.bsliceV n e ps)) := propext Iff.rfl
@[simp ↓] theorem AOps_bsliceM {K : Fr → Hp → Prop} (d : Option Nat) (n : Nat) (ps : List Arg) (r : List IOp) : AOps P (⟨d, none, .bsliceM n ps⟩ :: r) K fr H =
    OptK (fun v H' => AOps P r K (fr.put d v) H') .mk (stepI fr H (.bsliceM n ps)) := propext Iff.rfl
@[simp ↓] theorem AOps_mkSl {K : Fr → Hp → Prop} (d : Option Nat) (n m : Nat) (z : List D) (x y : Arg) (r : List IOp) : AOps P (⟨d, none, .mkSl n m z x y⟩ :: r) K fr H =
    OptK (fun v H' => AOps P r K (fr.put d v) H') .mk (stepI fr H (.mkSl n m z x y)) := propext Iff.rfl
@[simp ↓] theorem AOps_eqA {K : Fr → Hp → Prop} (d : Option Nat) (b : Bool) (l : List D) (x y : Arg) (r : List IOp) : AOps P (⟨d, none, .eqA b l x y⟩ :: r) K fr H =
    OptK (fun v H' => AOps P r K (fr.put d v) H') .mk (stepI fr H (.eqA b l x y)) := propext Iff.rfl
@[simp ↓] theorem AOps_appV {K : Fr → Hp → Prop} (d : Option Nat) (n m e : Nat) (x y : Arg) (r : List IOp) : AOps P (⟨d, none, .appV n m e x y⟩ :: r) K fr H =
    OptK (fun v H' => AOps P r K (fr.put d v) H') .mk (stepI fr H (.appV n m e x y)) := propext Iff.rfl
@[simp ↓] theorem AOps_appVV {K : Fr → Hp → Prop} (d : Option Nat) (n m e : Nat) (x y : Arg) (r : List IOp) : AOps P (⟨d, none, .appVV n m e x y⟩ :: r) K fr H =
    OptK (fun v H' => AOps P r K (fr.put d v) H') .mk (stepI fr H (.appVV n m e x y)) := propext Iff.rfl
@[simp ↓] theorem AOps_cutV {K : Fr → Hp → Prop} (d : Option Nat) (n : Nat) (x y : Arg) (r : List IOp) : AOps P (⟨d, none, .cutV n x y⟩ :: r) K fr H =
    OptK (fun v H' => AOps P r K (fr.put d v) H') .mk (stepI fr H (.cutV n x y)) := propext Iff.rfl
@[simp ↓] theorem AOps_cutL {K : Fr → Hp → Prop} (d : Option Nat) (n : Nat) (x y : Arg) (r : List IOp) : AOps P (⟨d, none, .cutL n x y⟩ :: r) K fr H =
    OptK (fun v H' => AOps P r K (fr.put d v) H') .mk (stepI fr H (.cutL n x y)) := propext Iff.rfl
@[simp ↓] theorem AOps_mkMap {K : Fr → Hp → Prop} (d : Option Nat)  (r : List IOp) : AOps P (⟨d, none, .mkMap ⟩ :: r) K fr H =
    OptK (fun v H' => AOps P r K (fr.put d v) H') .mk (stepI fr H (.mkMap )) := propext Iff.rfl
@[simp ↓] theorem AOps_lkp {K : Fr → Hp → Prop} (d : Option Nat) (b : Bool) (k0 : D) (g : Bool) (z : List D) (x y : Arg) (r : List IOp) : AOps P (⟨d, none, .lkp b k0 g z x y⟩ :: r) K fr H =
    OptK (fun v H' => AOps P r K (fr.put d v) H') .mk (stepI fr H (.lkp b k0 g z x y)) := propext Iff.rfl
@[simp ↓] theorem AOps_mpUpd {K : Fr → Hp → Prop} (d : Option Nat) (k0 : D) (x y v0 : Arg) (r : List IOp) : AOps P (⟨d, none, .mpUpd k0 x y v0⟩ :: r) K fr H =
    OptK (fun v H' => AOps P r K (fr.put d v) H') .mk (stepI fr H (.mpUpd k0 x y v0)) := propext Iff.rfl
@[simp ↓] theorem AOps_iaddrV {K : Fr → Hp → Prop} (d : Option Nat) (n : Nat) (x y : Arg) (r : List IOp) : AOps P (⟨d, none, .iaddrV n x y⟩ :: r) K fr H =
    OptK (fun v H' => AOps P r K (fr.put d v) H') .mk (stepI fr H (.iaddrV n x y)) := propext Iff.rfl
@[simp ↓] theorem AOps_loadV {K : Fr → Hp → Prop} (d : Option Nat) (n : Nat) (g : Bool) (x : Arg) (r : List IOp) : AOps P (⟨d, none, .loadV n g x⟩ :: r) K fr H =
    OptK (fun v H' => AOps P r K (fr.put d v) H') .mk (stepI fr H (.loadV n g x)) := propext Iff.rfl
@[simp ↓] theorem AOps_ext {K : Fr → Hp → Prop} (d : Option Nat) (x : Arg) (n : Nat) (r : List IOp) : AOps P (⟨d, none, .ext x n⟩ :: r) K fr H =
    OptK (fun v H' => AOps P r K (fr.put d v) H') .mk (stepI fr H (.ext x n)) := propext Iff.rfl
@[simp ↓] theorem AOps_lenS {K : Fr → Hp → Prop} (d : Option Nat) (x : Arg) (r : List IOp) : AOps P (⟨d, none, .lenS x⟩ :: r) K fr H =
    OptK (fun v H' => AOps P r K (fr.put d v) H') .mk (stepI fr H (.lenS x)) := propext Iff.rfl
@[simp ↓] theorem AOps_lenL {K : Fr → Hp → Prop} (d : Option Nat) (x : Arg) (r : List IOp) : AOps P (⟨d, none, .lenL x⟩ :: r) K fr H =
    OptK (fun v H' => AOps P r K (fr.put d v) H') .mk (stepI fr H (.lenL x)) := propext Iff.rfl
@[simp ↓] theorem AOps_mm {K : Fr → Hp → Prop} (d : Option Nat) (b : Bool) (x y : Arg) (r : List IOp) : AOps P (⟨d, none, .mm b x y⟩ :: r) K fr H =
    OptK (fun v H' => AOps P r K (fr.put d v) H') .mk (stepI fr H (.mm b x y)) := propext Iff.rfl
@[simp ↓] theorem AOps_app {K : Fr → Hp → Prop} (d : Option Nat) (n m e : Nat) (x y : Arg) (r : List IOp) : AOps P (⟨d, none, .app n m e x y⟩ :: r) K fr H =
    OptK (fun v H' => AOps P r K (fr.put d v) H') .mk (stepI fr H (.app n m e x y)) := propext Iff.rfl
@[simp ↓] theorem AOps_appS {K : Fr → Hp → Prop} (d : Option Nat) (e : Nat) (x y : Arg) (r : List IOp) : AOps P (⟨d, none, .appS e x y⟩ :: r) K fr H =
    OptK (fun v H' => AOps P r K (fr.put d v) H') .mk (stepI fr H (.appS e x y)) := propext Iff.rfl
@[simp ↓] theorem AOps_mkfn {K : Fr → Hp → Prop} (d : Option Nat) (f : Fn) (a b : List Arg) (r : List IOp) : AOps P (⟨d, none, .mkfn f a b⟩ :: r) K fr H =
    OptK (fun v H' => AOps P r K (fr.put d v) H') .mk (stepI fr H (.mkfn f a b)) := propext Iff.rfl
@[simp ↓] theorem ADraw_mv {K : Fr → Hp → Prop} (d : Option Nat) (x : Arg) (r : List IOp) : ADraw P (⟨d, none, .mv x⟩ :: r) K fr H =
    OptK (fun v H' => ADraw P r K (fr.put d v) H') .mk (stepI fr H (.mv x)) := propext Iff.rfl
@[simp ↓] theorem ADraw_nilT {K : Fr → Hp → Prop} (d : Option Nat) (n e : Nat) (r : List IOp) : ADraw P (⟨d, none, .nilT n e⟩ :: r) K fr H =
    OptK (fun v H' => ADraw P r K (fr.put d v) H') .mk (stepI fr H (.nilT n e)) := propext Iff.rfl
@[simp ↓] theorem ADraw_nilW {K : Fr → Hp → Prop} (d : Option Nat) (n e : Nat) (r : List IOp) : ADraw P (⟨d, none, .nilW n e⟩ :: r) K fr H =
    OptK (fun v H' => ADraw P r K (fr.put d v) H') .mk (stepI fr H (.nilW n e)) := propext Iff.rfl
@[simp ↓] theorem ADraw_pick {K : Fr → Hp → Prop} (d : Option Nat) (a b c : Arg) (r : List IOp) : ADraw P (⟨d, none, .pick a b c⟩ :: r) K fr H =
    OptK (fun v H' => ADraw P r K (fr.put d v) H') .mk (stepI fr H (.pick a b c)) := propext Iff.rfl
@[simp ↓] theorem ADraw_alloc {K : Fr → Hp → Prop} (d : Option Nat) (ty : TypeId) (cs : List D) (r : List IOp) : ADraw P (⟨d, none, .alloc ty cs⟩ :: r) K fr H =
    OptK (fun v H' => ADraw P r K (fr.put d v) H') .mk (stepI fr H (.alloc ty cs)) := propext Iff.rfl
@[simp ↓] theorem ADraw_box {K : Fr → Hp → Prop} (d : Option Nat) (ty n : Nat) (x : Arg) (r : List IOp) : ADraw P (⟨d, none, .box ty n x⟩ :: r) K fr H =
    OptK (fun v H' => ADraw P r K (fr.put d v) H') .mk (stepI fr H (.box ty n x)) := propext Iff.rfl
@[simp ↓] theorem ADraw_allocU {K : Fr → Hp → Prop} (d : Option Nat) (ty : TypeId) (cs : List D) (ts : List (Nat × Nat × TypeId)) (r : List IOp) : ADraw P (⟨d, none, .allocU ty cs ts⟩ :: r) K fr H =
    OptK (fun v H' => ADraw P r K (fr.put d v) H') .mk (stepI fr H (.allocU ty cs ts)) := propext Iff.rfl
@[simp ↓] theorem ADraw_allocT {K : Fr → Hp → Prop} (d : Option Nat) (ty : TypeId) (cs : List D) (j sz e : Nat) (r : List IOp) : ADraw P (⟨d, none, .allocT ty cs j sz e⟩ :: r) K fr H =
    OptK (fun v H' => ADraw P r K (fr.put d v) H') .mk (stepI fr H (.allocT ty cs j sz e)) := propext Iff.rfl
@[simp ↓] theorem ADraw_load {K : Fr → Hp → Prop} (d : Option Nat) (n : Nat) (g : Bool) (p : Arg) (r : List IOp) : ADraw P (⟨d, none, .load n g p⟩ :: r) K fr H =
    OptK (fun v H' => ADraw P r K (fr.put d v) H') .mk (stepI fr H (.load n g p)) := propext Iff.rfl
@[simp ↓] theorem ADraw_store {K : Fr → Hp → Prop} (d : Option Nat) (n : Nat) (p v : Arg) (r : List IOp) : ADraw P (⟨d, none, .store n p v⟩ :: r) K fr H =
    OptK (fun v H' => ADraw P r K (fr.put d v) H') .mk (stepI fr H (.store n p v)) := propext Iff.rfl
@[simp ↓] theorem ADraw_nilCheck {K : Fr → Hp → Prop} (d : Option Nat) (x : Arg) (r : List IOp) : ADraw P (⟨d, none, .nilCheck x⟩ :: r) K fr H =
    OptK (fun v H' => ADraw P r K (fr.put d v) H') .mk (stepI fr H (.nilCheck x)) := propext Iff.rfl
@[simp ↓] theorem ADraw_bin {K : Fr → Hp → Prop} (d : Option Nat) (op : BinOp) (x y : Arg) (r : List IOp) : ADraw P (⟨d, none, .bin op x y⟩ :: r) K fr H =
    OptK (fun v H' => ADraw P r K (fr.put d v) H') .mk (stepI fr H (.bin op x y)) := propext Iff.rfl
@[simp ↓] theorem ADraw_beq {K : Fr → Hp → Prop} (d : Option Nat) (b : Bool) (x y : Arg) (r : List IOp) : ADraw P (⟨d, none, .beq b x y⟩ :: r) K fr H =
    OptK (fun v H' => ADraw P r K (fr.put d v) H') .mk (stepI fr H (.beq b x y)) := propext Iff.rfl
@[simp ↓] theorem ADraw_isNilS {K : Fr → Hp → Prop} (d : Option Nat) (b : Bool) (x : Arg) (r : List IOp) : ADraw P (⟨d, none, .isNilS b x⟩ :: r) K fr H =
    OptK (fun v H' => ADraw P r K (fr.put d v) H') .mk (stepI fr H (.isNilS b x)) := propext Iff.rfl
@[simp ↓] theorem ADraw_isNilP {K : Fr → Hp → Prop} (d : Option Nat) (b : Bool) (x : Arg) (r : List IOp) : ADraw P (⟨d, none, .isNilP b x⟩ :: r) K fr H =
    OptK (fun v H' => ADraw P r K (fr.put d v) H') .mk (stepI fr H (.isNilP b x)) := propext Iff.rfl
@[simp ↓] theorem ADraw_un {K : Fr → Hp → Prop} (d : Option Nat) (op : UnOp) (x : Arg) (r : List IOp) : ADraw P (⟨d, none, .un op x⟩ :: r) K fr H =
    OptK (fun v H' => ADraw P r K (fr.put d v) H') .mk (stepI fr H (.un op x)) := propext Iff.rfl
@[simp ↓] theorem ADraw_cvt {K : Fr → Hp → Prop} (d : Option Nat) (k : IntKind) (x : Arg) (r : List IOp) : ADraw P (⟨d, none, .cvt k x⟩ :: r) K fr H =
    OptK (fun v H' => ADraw P r K (fr.put d v) H') .mk (stepI fr H (.cvt k x)) := propext Iff.rfl
@[simp ↓] theorem ADraw_cvtBS {K : Fr → Hp → Prop} (d : Option Nat) (x : Arg) (r : List IOp) : ADraw P (⟨d, none, .cvtBS x⟩ :: r) K fr H =
    OptK (fun v H' => ADraw P r K (fr.put d v) H') .mk (stepI fr H (.cvtBS x)) := propext Iff.rfl
@[simp ↓] theorem ADraw_cvtS {K : Fr → Hp → Prop} (d : Option Nat) (x : Arg) (r : List IOp) : ADraw P (⟨d, none, .cvtS x⟩ :: r) K fr H =
    OptK (fun v H' => ADraw P r K (fr.put d v) H') .mk (stepI fr H (.cvtS x)) := propext Iff.rfl
@[simp ↓] theorem ADraw_faddr {K : Fr → Hp → Prop} (d : Option Nat) (n : Nat) (x : Arg) (r : List IOp) : ADraw P (⟨d, none, .faddr n x⟩ :: r) K fr H =
    OptK (fun v H' => ADraw P r K (fr.put d v) H') .mk (stepI fr H (.faddr n x)) := propext Iff.rfl
@[simp ↓] theorem ADraw_fld {K : Fr → Hp → Prop} (d : Option Nat) (o n : Nat) (g : Bool) (x : Arg) (r : List IOp) : ADraw P (⟨d, none, .fld o n g x⟩ :: r) K fr H =
    OptK (fun v H' => ADraw P r K (fr.put d v) H') .mk (stepI fr H (.fld o n g x)) := propext Iff.rfl
@[simp ↓] theorem ADraw_iaddr {K : Fr → Hp → Prop} (d : Option Nat) (n : Nat) (x y : Arg) (r : List IOp) : ADraw P (⟨d, none, .iaddr n x y⟩ :: r) K fr H =
    OptK (fun v H' => ADraw P r K (fr.put d v) H') .mk (stepI fr H (.iaddr n x y)) := propext Iff.rfl
@[simp ↓] theorem ADraw_sidx {K : Fr → Hp → Prop} (d : Option Nat) (x y : Arg) (r : List IOp) : ADraw P (⟨d, none, .sidx x y⟩ :: r) K fr H =
    OptK (fun v H' => ADraw P r K (fr.put d v) H') .mk (stepI fr H (.sidx x y)) := propext Iff.rfl
@[simp ↓] theorem ADraw_aidx {K : Fr → Hp → Prop} (d : Option Nat) (n : Nat) (x y : Arg) (r : List IOp) : ADraw P (⟨d, none, .aidx n x y⟩ :: r) K fr H =
    OptK (fun v H' => ADraw P r K (fr.put d v) H') .mk (stepI fr H (.aidx n x y)) := propext Iff.rfl
@[simp ↓] theorem ADraw_sslice {K : Fr → Hp → Prop} (d : Option Nat) (x : Arg) (l h : Option Arg) (r : List IOp) : ADraw P (⟨d, none, .sslice x l h⟩ :: r) K fr H =
    OptK (fun v H' => ADraw P r K (fr.put d v) H') .mk (stepI fr H (.sslice x l h)) := propext Iff.rfl
@[simp ↓] theorem ADraw_slice {K : Fr → Hp → Prop} (d : Option Nat) (n : Nat) (x : Arg) (l h m : Option Arg) (r : List IOp) : ADraw P (⟨d, none, .slice n x l h m⟩ :: r) K fr H =
    OptK (fun v H' => ADraw P r K (fr.put d v) H') .mk (stepI fr H (.slice n x l h m)) := propext Iff.rfl
@[simp ↓] theorem ADraw_build {K : Fr → Hp → Prop} (d : Option Nat) (z : List D) (ps : List (Nat × Nat × Arg)) (r : List IOp) : ADraw P (⟨d, none, .build z ps⟩ :: r) K fr H =
    OptK (fun v H' => ADraw P r K (fr.put d v) H') .mk (stepI fr H (.build z ps)) := propext Iff.rfl
@[simp ↓] theorem ADraw_buildT {K : Fr → Hp → Prop} (d : Option Nat) (ts : List (Nat × Nat × TypeId)) (z : List D) (ps : List (Nat × Nat × Arg)) (r : List IOp) : ADraw P (⟨d, none, .buildT ts z ps⟩ :: r) K fr H =
    OptK (fun v H' => ADraw P r K (fr.put d v) H') .mk (stepI fr H (.buildT ts z ps)) := propext Iff.rfl
@[simp ↓] theorem ADraw_bslice {K : Fr → Hp → Prop} (d : Option Nat) (n : Nat) (ps : List Arg) (r : List IOp) : ADraw P (⟨d, none, .bslice n ps⟩ :: r) K fr H =
    OptK (fun v H' => ADraw P r K (fr.put d v) H') .mk (stepI fr H (.bslice n ps)) := propext Iff.rfl
@[simp ↓] theorem ADraw_bsliceT {K : Fr → Hp → Prop} (d : Option Nat) (n e : Nat) (ps : List Arg) (r : List IOp) : ADraw P (⟨d, none, .bsliceT n e ps⟩ :: r) K fr H =
    OptK (fun v H' => ADraw P r K (fr.put d v) H') .mk (stepI fr H (.bsliceT n e ps)) := propext Iff.rfl
@[simp ↓] theorem ADraw_bsliceV {K : Fr → Hp → Prop} (d : Option Nat) (n e : Nat) (ps : List Arg) (r : List IOp) : ADraw P (⟨d, none, .bsliceV n e ps⟩ :: r) K fr H =
    OptK (fun v H' => ADraw P r K (fr.put d v) H') .mk (stepI fr H (.bsliceV n e ps)) := propext Iff.rfl
@[simp ↓] theorem ADraw_bsliceM {K : Fr → Hp → Prop} (d : Option Nat) (n : Nat) (ps : List Arg) (r : List IOp) : ADraw P (⟨d, none, .bsliceM n ps⟩ :: r) K fr H =
    OptK (fun v H' => ADraw P r K (fr.put d v) H') .mk (stepI fr H (.bsliceM n ps)) := propext Iff.rfl
@[simp ↓] theorem ADraw_mkSl {K : Fr → Hp → Prop} (d : Option Nat) (n m : Nat) (z : List D) (x y : Arg) (r : List IOp) : ADraw P (⟨d, none, .mkSl n m z x y⟩ :: r) K fr H =
    OptK (fun v H' => ADraw P r K (fr.put d v) H') .mk (stepI fr H (.mkSl n m z x y)) := propext Iff.rfl
@[simp ↓] theorem ADraw_eqA {K : Fr → Hp → Prop} (d : Option Nat) (b : Bool) (l : List D) (x y : Arg) (r : List IOp) : ADraw P (⟨d, none, .eqA b l x y⟩ :: r) K fr H =
    OptK (fun v H' => ADraw P r K (fr.put d v) H') .mk (stepI fr H (.eqA b l x y)) := propext Iff.rfl
@[simp ↓] theorem ADraw_appV {K : Fr → Hp → Prop} (d : Option Nat) (n m e : Nat) (x y : Arg) (r : List IOp) : ADraw P (⟨d, none, .appV n m e x y⟩ :: r) K fr H =
    OptK (fun v H' => ADraw P r K (fr.put d v) H') .mk (stepI fr H (.appV n m e x y)) := propext Iff.rfl
@[simp ↓] theorem ADraw_appVV {K : Fr → Hp → Prop} (d : Option Nat) (n m e : Nat) (x y : Arg) (r : List IOp) : ADraw P (⟨d, none, .appVV n m e x y⟩ :: r) K fr H =
    OptK (fun v H' => ADraw P r K (fr.put d v) H') .mk (stepI fr H (.appVV n m e x y)) := propext Iff.rfl
@[simp ↓] theorem ADraw_cutV {K : Fr → Hp → Prop} (d : Option Nat) (n : Nat) (x y : Arg) (r : List IOp) : ADraw P (⟨d, none, .cutV n x y⟩ :: r) K fr H =
    OptK (fun v H' => ADraw P r K (fr.put d v) H') .mk (stepI fr H (.cutV n x y)) := propext Iff.rfl
@[simp ↓] theorem ADraw_cutL {K : Fr → Hp → Prop} (d : Option Nat) (n : Nat) (x y : Arg) (r : List IOp) : ADraw P (⟨d, none, .cutL n x y⟩ :: r) K fr H =
    OptK (fun v H' => ADraw P r K (fr.put d v) H') .mk (stepI fr H (.cutL n x y)) := propext Iff.rfl
@[simp ↓] theorem ADraw_mkMap {K : Fr → Hp → Prop} (d : Option Nat)  (r : List IOp) : ADraw P (⟨d, none, .mkMap ⟩ :: r) K fr H =
    OptK (fun v H' => ADraw P r K (fr.put d v) H') .mk (stepI fr H (.mkMap )) := propext Iff.rfl
@[simp ↓] theorem ADraw_lkp {K : Fr → Hp → Prop} (d : Option Nat) (b : Bool) (k0 : D) (g : Bool) (z : List D) (x y : Arg) (r : List IOp) : ADraw P (⟨d, none, .lkp b k0 g z x y⟩ :: r) K fr H =
    OptK (fun v H' => ADraw P r K (fr.put d v) H') .mk (stepI fr H (.lkp b k0 g z x y)) := propext Iff.rfl
@[simp ↓] theorem ADraw_mpUpd {K : Fr → Hp → Prop} (d : Option Nat) (k0 : D) (x y v0 : Arg) (r : List IOp) : ADraw P (⟨d, none, .mpUpd k0 x y v0⟩ :: r) K fr H =
    OptK (fun v H' => ADraw P r K (fr.put d v) H') .mk (stepI fr H (.mpUpd k0 x y v0)) := propext Iff.rfl
@[simp ↓] theorem ADraw_iaddrV {K : Fr → Hp → Prop} (d : Option Nat) (n : Nat) (x y : Arg) (r : List IOp) : ADraw P (⟨d, none, .iaddrV n x y⟩ :: r) K fr H =
    OptK (fun v H' => ADraw P r K (fr.put d v) H') .mk (stepI fr H (.iaddrV n x y)) := propext Iff.rfl
@[simp ↓] theorem ADraw_loadV {K : Fr → Hp → Prop} (d : Option Nat) (n : Nat) (g : Bool) (x : Arg) (r : List IOp) : ADraw P (⟨d, none, .loadV n g x⟩ :: r) K fr H =
    OptK (fun v H' => ADraw P r K (fr.put d v) H') .mk (stepI fr H (.loadV n g x)) := propext Iff.rfl
@[simp ↓] theorem ADraw_ext {K : Fr → Hp → Prop} (d : Option Nat) (x : Arg) (n : Nat) (r : List IOp) : ADraw P (⟨d, none, .ext x n⟩ :: r) K fr H =
    OptK (fun v H' => ADraw P r K (fr.put d v) H') .mk (stepI fr H (.ext x n)) := propext Iff.rfl
@[simp ↓] theorem ADraw_lenS {K : Fr → Hp → Prop} (d : Option Nat) (x : Arg) (r : List IOp) : ADraw P (⟨d, none, .lenS x⟩ :: r) K fr H =
    OptK (fun v H' => ADraw P r K (fr.put d v) H') .mk (stepI fr H (.lenS x)) := propext Iff.rfl
@[simp ↓] theorem ADraw_lenL {K : Fr → Hp → Prop} (d : Option Nat) (x : Arg) (r : List IOp) : ADraw P (⟨d, none, .lenL x⟩ :: r) K fr H =
    OptK (fun v H' => ADraw P r K (fr.put d v) H') .mk (stepI fr H (.lenL x)) := propext Iff.rfl
@[simp ↓] theorem ADraw_mm {K : Fr → Hp → Prop} (d : Option Nat) (b : Bool) (x y : Arg) (r : List IOp) : ADraw P (⟨d, none, .mm b x y⟩ :: r) K fr H =
    OptK (fun v H' => ADraw P r K (fr.put d v) H') .mk (stepI fr H (.mm b x y)) := propext Iff.rfl
@[simp ↓] theorem ADraw_app {K : Fr → Hp → Prop} (d : Option Nat) (n m e : Nat) (x y : Arg) (r : List IOp) : ADraw P (⟨d, none, .app n m e x y⟩ :: r) K fr H =
    OptK (fun v H' => ADraw P r K (fr.put d v) H') .mk (stepI fr H (.app n m e x y)) := propext Iff.rfl
@[simp ↓] theorem ADraw_appS {K : Fr → Hp → Prop} (d : Option Nat) (e : Nat) (x y : Arg) (r : List IOp) : ADraw P (⟨d, none, .appS e x y⟩ :: r) K fr H =
    OptK (fun v H' => ADraw P r K (fr.put d v) H') .mk (stepI fr H (.appS e x y)) := propext Iff.rfl
@[simp ↓] theorem ADraw_mkfn {K : Fr → Hp → Prop} (d : Option Nat) (f : Fn) (a b : List Arg) (r : List IOp) : ADraw P (⟨d, none, .mkfn f a b⟩ :: r) K fr H =
    OptK (fun v H' => ADraw P r K (fr.put d v) H') .mk (stepI fr H (.mkfn f a b)) := propext Iff.rfl

@[simp] theorem GdK_yes {b : Bool} {T F : Fr → Prop} {t : Tag T} {u : Tag F} {s : Nat} : GdK T F t u fr b s (.d (.bool b)) = T fr := by simp [GdK, AGd]
@[simp] theorem GdK_no1 {T F : Fr → Prop} {t : Tag T} {u : Tag F} {s : Nat} : GdK T F t u fr true s (.d (.bool false)) = F fr := by simp [GdK, AGd]
@[simp] theorem GdK_no2 {T F : Fr → Prop} {t : Tag T} {u : Tag F} {s : Nat} : GdK T F t u fr false s (.d (.bool true)) = F fr := by simp [GdK, AGd]
@[simp] theorem GdK_tup {b : Bool} {T F : Fr → Prop} {t : Tag T} {u : Tag F} {s : Nat} : GdK T F t u fr b s (.tup []) = F fr := by simp [GdK, AGd]
@[simp] theorem BrK_true {T F : Prop} {t : Tag T} {u : Tag F} : BrK T F t u (.d (.bool true)) = T := by simp [BrK, ABr]
@[simp] theorem BrK_false {T F : Prop} {t : Tag T} {u : Tag F} : BrK T F t u (.d (.bool false)) = F := by simp [BrK, ABr]
@[simp] theorem ValK_d {Q : A → Hp → Prop} {t : Tag Q} {l : List A} {f : FuncId} : ValK Q t P l H (.d (.fn f)) = (callOk P f = true ∧ CallK Q .mk P f l H) := propext Iff.rfl
@[simp] theorem ValK_fn {Q : A → Hp → Prop} {t : Tag Q} {l a c : List A} {f : FuncId} : ValK Q t P l H (.fn (.func f) a c) = (callOk P f = true ∧ CallK Q .mk P f (a ++ l ++ c) H) := propext Iff.rfl
@[simp] theorem ValD_d {Q : A → Hp → Prop} {t : Tag Q} {l : List A} {f : FuncId} : ValD Q t P l H (.d (.fn f)) = (callOk P f = true ∧ CallD Q .mk P f l H) := propext Iff.rfl
@[simp] theorem ValD_fn {Q : A → Hp → Prop} {t : Tag Q} {l a c : List A} {f : FuncId} : ValD Q t P l H (.fn (.func f) a c) = (callOk P f = true ∧ CallD Q .mk P f (a ++ l ++ c) H) := propext Iff.rfl

theorem Fr.set_self (fr : Fr) (s : Nat) : fr.set s (fr s) = fr := by
  funext t; simp only [Fr.set]; split
  · rename_i h; rw [h]
  · rfl

/-- a guard that is not known: both ways, what it is known from there on -/
theorem GdK_split {c b : Bool} {T F : Fr → Prop} {t : Tag T} {u : Tag F} {s : Nat} (hs : fr s = .d (.bool c)) (hT : c = b → T (fr.set s (.d (.bool b)))) (hF : c = (!b) → F (fr.set s (.d (.bool (!b))))) : GdK T F t u fr b s (.d (.bool c)) := by
  simp only [GdK, AGd]
  split
  · rename_i h; subst h; have := hT rfl; rwa [← hs, Fr.set_self] at this
  · rename_i h
    have hc : c = !b := by cases c <;> cases b <;> simp_all
    have := hF hc
    rw [← hc, ← hs, Fr.set_self] at this; exact this

theorem BrK_split {c : Bool} {T F : Prop} {t : Tag T} {u : Tag F} (hT : c = true → T) (hF : c = false → F) : BrK T F t u (.d (.bool c)) := by
  simp only [BrK, ABr]
  cases c with
  | true => simp only [if_true]; exact hT rfl
  | false => simp only [Bool.false_eq_true, if_false]; exact hF rfl

theorem CallK_of {Q R : A → Hp → Prop} {t : Tag Q} {f : FuncId} {l : List A} (h : ACall P f l H R) (hq : ∀ x H', R x H' → Q x H') : CallK Q t P f l H := h.mono hq
theorem CallD_of {Q : A → Hp → Prop} {t : Tag Q} {f : FuncId} {l : List A} {v : A} (h : ACall P f l H (fun x H' => x = v ∧ H' = H)) (hq : Q v H) : CallD Q t P f l H := ⟨v, h, hq⟩
theorem CallK_of' {Q : A → Hp → Prop} {t : Tag Q} {f : FuncId} {l : List A} {v : A} {H1 : Hp} (h : ACall P f l H (fun x H' => x = v ∧ H' = H1)) (hq : Q v H1) : CallK Q t P f l H := h.mono fun _ _ ⟨hx, hh⟩ => by rw [hx, hh]; exact hq

theorem LoopK_of {c : C} {t : Tag (Q, c)} (m : Nat) (J : Fr → Hp → Prop) (μ : Fr → Hp → Nat) (h1 : n0 ≤ m ∧ m ≤ H.length) (h2 : J (fr.clr m) (Hp.cut m H))
    (h3 : ∀ fr H, J fr H → AWp P n0 c (Ex.then (Again m J μ (μ fr H)) Q) fr H) : LoopK Q c t P n0 fr H := ⟨m, J, μ, h1.1, h1.2, h2, h3⟩
theorem AgainK_of {J : Fr → Hp → Prop} {μ : Fr → Hp → Nat} {t : Tag (J, μ)} {m n : Nat} (h1 : m ≤ H.length) (h2 : J (fr.clr m) (Hp.cut m H)) (h3 : μ (fr.clr m) (Hp.cut m H) < n) : AgainK J μ t m n fr H := ⟨m, Nat.le_refl _, h1, h2, h3⟩
theorem AgainK_ofk {J : Fr → Hp → Prop} {μ : Fr → Hp → Nat} {t : Tag (J, μ)} {m n : Nat} (k : Nat) (hk : m ≤ k) (h1 : k ≤ H.length) (h2 : J (fr.clr k) (Hp.cut k H)) (h3 : μ (fr.clr k) (Hp.cut k H) < n) : AgainK J μ t m n fr H := ⟨k, hk, h1, h2, h3⟩
theorem Ret_of {rs : List Res} {K : A → Hp → Prop} (e : Ex) (he : (match e with | .exit _ => False | _ => True)) (h : RetK K .mk n0 (resA fr H rs) H) : Ret rs n0 K e fr H := by
  unfold RetK at h
  split at h
  · rename_i x hx
    cases e with
    | exit i => exact he.elim
    | normal => exact ⟨x, n0, hx, Nat.le_refl _, h.1, h.2⟩
    | ret => exact ⟨x, n0, hx, Nat.le_refl _, h.1, h.2⟩
  · exact h.elim

end

/-- what is asked of a body whose new memory is given back -/
def Fin (rs : List Res) (n0 : Nat) (K : A → Hp → Prop) : Ex → Fr → Hp → Prop
  | .exit _, _, _ => False
  | _, fr, H => RetK K .mk n0 (resA fr H rs) H
@[simp ↓] theorem Fin_ret {rs : List Res} {n0 : Nat} {K : A → Hp → Prop} {fr : Fr} {H : Hp} : Fin rs n0 K .ret fr H = RetK K .mk n0 (resA fr H rs) H := propext Iff.rfl
@[simp ↓] theorem Fin_normal {rs : List Res} {n0 : Nat} {K : A → Hp → Prop} {fr : Fr} {H : Hp} : Fin rs n0 K .normal fr H = RetK K .mk n0 (resA fr H rs) H := propext Iff.rfl

theorem runI.mono {P : Program} {fr : Fr} {H : Hp} {i : I} {K K' : A → Hp → Prop} (h : runI P fr H i K) (hk : ∀ v H', K v H' → K' v H') : runI P fr H i K' := by
  cases i with
  | call f l => exact ACall.mono h hk
  | callE f l => exact ACall.mono h hk
  | callv f l =>
    simp only [runI] at h ⊢
    split at h
    · exact ⟨h.1, h.2.mono hk⟩
    · exact ⟨h.1, h.2.mono hk⟩
    · exact h.elim
  | _ =>
    simp only [runI] at h ⊢
    split at h
    · exact hk _ _ h
    · exact h.elim

theorem runD.mono {P : Program} {fr : Fr} {H : Hp} {i : I} {K K' : A → Hp → Prop} (h : runD P fr H i K) (hk : ∀ v H', K v H' → K' v H') : runD P fr H i K' := by
  cases i with
  | call f l => obtain ⟨v, h1, h2⟩ := h; exact ⟨v, h1, hk _ _ h2⟩
  | callE f l => obtain ⟨v, H1, h1, h2⟩ := h; exact ⟨v, H1, h1, hk _ _ h2⟩
  | callv f l =>
    simp only [runD] at h ⊢
    split at h
    · obtain ⟨h0, v, h1, h2⟩ := h; exact ⟨h0, v, h1, hk _ _ h2⟩
    · obtain ⟨h0, v, h1, h2⟩ := h; exact ⟨h0, v, h1, hk _ _ h2⟩
    · exact h.elim
  | _ =>
    simp only [runD] at h ⊢
    split at h
    · exact hk _ _ h
    · exact h.elim

theorem AGd.mono {x : A} {fr : Fr} {b : Bool} {T F T' F' : Fr → Prop} (h : AGd x fr b T F) (ht : T fr → T' fr) (hf : F fr → F' fr) : AGd x fr b T' F' := by
  unfold AGd at h ⊢
  split at h
  · split at h
    · rename_i e; simp only [e, if_true]; exact ht h
    · rename_i e; simp only [e, if_false]; exact hf h
  · exact hf h
  · exact h.elim

theorem AOps.mono {P : Program} {K K' : Fr → Hp → Prop} (hk : ∀ fr H, K fr H → K' fr H) : ∀ (l : List IOp) (fr : Fr) (H : Hp), AOps P l K fr H → AOps P l K' fr H
  | [], fr, H, h => hk _ _ h
  | ⟨d, none, i⟩ :: r, fr, H, h => runI.mono (h : runI P fr H i _) fun _ _ h => AOps.mono hk r _ _ h
  | ⟨d, some (s, b), i⟩ :: r, fr, H, h => by
      simp only [AOps] at h ⊢; exact AGd.mono h (fun h => runI.mono h fun _ _ h => AOps.mono hk r _ _ h) (fun h => AOps.mono hk r _ _ h)

theorem ADraw.mono {P : Program} {K K' : Fr → Hp → Prop} (hk : ∀ fr H, K fr H → K' fr H) : ∀ (l : List IOp) (fr : Fr) (H : Hp), ADraw P l K fr H → ADraw P l K' fr H
  | [], fr, H, h => hk _ _ h
  | ⟨d, none, i⟩ :: r, fr, H, h => runD.mono (h : runD P fr H i _) fun _ _ h => ADraw.mono hk r _ _ h
  | ⟨d, some (s, b), i⟩ :: r, fr, H, h => by
      simp only [ADraw] at h ⊢; exact AGd.mono h (fun h => runD.mono h fun _ _ h => ADraw.mono hk r _ _ h) (fun h => ADraw.mono hk r _ _ h)

theorem AWp.mono {P : Program} {n0 : Nat} : ∀ (c : C) {Q Q' : Ex → Fr → Hp → Prop} (_ : ∀ e fr H, Q e fr H → Q' e fr H) (fr : Fr) (H : Hp), AWp P n0 c Q fr H → AWp P n0 c Q' fr H
  | .skip, _, _, hq, fr, H, h => hq _ _ _ h
  | .ops l false, _, _, hq, fr, H, h => AOps.mono (hq _) l fr H h
  | .ops l true, _, _, hq, fr, H, h => ADraw.mono (hq _) l fr H h
  | .both a b, _, _, hq, fr, H, h => ⟨AWp.mono a hq fr H h.1, AWp.mono b hq fr H h.2⟩
  | .seq a b, Q, Q', hq, fr, H, h => AWp.mono a (fun e fr H h => by
      cases e with
      | normal => exact AWp.mono b hq fr H h
      | exit i => exact hq _ _ _ h
      | ret => exact hq _ _ _ h) fr H h
  | .cond c a b, Q, Q', hq, fr, H, h => by
      simp only [AWp, ABr] at h ⊢
      split at h
      · split at h
        · rename_i e; simp only [e, if_true]; exact AWp.mono a hq fr H h
        · rename_i e; simp only [e]; exact AWp.mono b hq fr H h
      · exact h.elim
  | .blk i c, Q, Q', hq, fr, H, h => AWp.mono c (fun e fr H h => by
      cases e with
      | normal => exact hq _ _ _ h
      | exit j =>
        simp only [Ex.blk] at h ⊢
        split at h
        · rename_i e; simp only [e, if_true]; exact hq _ _ _ h
        · rename_i e; simp only [e, if_false]; exact hq _ _ _ h
      | ret => exact hq _ _ _ h) fr H h
  | .loop c, Q, Q', hq, fr, H, ⟨m, J, μ, h1, h2, h3, h4⟩ => ⟨m, J, μ, h1, h2, h3, fun fr H hj => AWp.mono c (fun e fr H h => by
      cases e with
      | normal => exact h
      | exit j => exact hq _ _ _ h
      | ret => exact hq _ _ _ h) fr H (h4 fr H hj)⟩
  | .exit i, _, _, hq, fr, H, h => hq _ _ _ h
  | .ret, _, _, hq, fr, H, h => hq _ _ _ h
  | .bad, _, _, _, _, _, h => h.elim
  | .any _ _, _, _, hq, _, _, ⟨Inv, h1, h2⟩ => ⟨Inv, h1, fun S fr H hs hi => ⟨fun e => hq _ _ _ ((h2 S fr H hs hi).1 e), (h2 S fr H hs hi).2⟩⟩

theorem acall_fin {P : Program} {f : FuncId} {fn : Func} {tok : List Nat} {ifn : IFn} {args : List A} {H : Hp} {K : A → Hp → Prop} (hf : P.funcs[f]? = some fn) (hc : compF P tok fn = some ifn) (hn : args.length ≤ ifn.nt)
    (h : H.Closed → (∀ a ∈ args, a.flat0 = true → a.lo H.length = true) → AWp P H.length ifn.body (Fin ifn.res H.length K) (Fr.init args) H) : ACall P f args H K :=
  acall_of hf hc hn fun h1 h2 => AWp.mono _ (fun e fr H h => Ret_of e (by cases e <;> first | trivial | exact h.elim) (by cases e <;> first | exact h | exact h.elim)) _ _ (h h1 h2)

@[simp] theorem Fr.put_some (fr : Fr) (d : Nat) (v : A) : fr.put (some d) v = fr.set d v := rfl
@[simp] theorem Fr.put_none (fr : Fr) (v : A) : fr.put none v = fr := rfl
@[simp ↓] theorem Fr.set_app (fr : Fr) (d : Nat) (v : A) (s : Nat) : Fr.set fr d v s = if s = d then v else fr s := rfl
@[simp ↓] theorem Fr.put_app (fr : Fr) (d : Nat) (v : A) (s : Nat) : Fr.put fr (some d) v s = if s = d then v else fr s := rfl
@[simp ↓] theorem Fr.clr_app (fr : Fr) (m s : Nat) : Fr.clr m fr s = (fr s).clr m := rfl
@[simp] theorem Fr.init_nil (s : Nat) : Fr.init [] s = .tup [] := rfl
@[simp] theorem Fr.init_zero (a : A) (l : List A) : Fr.init (a :: l) 0 = a := rfl
@[simp] theorem Fr.init_succ (a : A) (l : List A) (s : Nat) : Fr.init (a :: l) (s + 1) = Fr.init l s := rfl
@[simp ↓] theorem ev_t (fr : Fr) (s : Nat) : Arg.ev fr (.t s) = fr s := rfl
@[simp ↓] theorem ev_c (fr : Fr) (d : D) : Arg.ev fr (.c d) = .d d := rfl

theorem getElem?_app0 {α : Type} (H l : List α) : (H ++ l)[H.length]? = l[0]? := by
  rw [List.getElem?_append_right (Nat.le_refl _), Nat.sub_self]
theorem getElem?_appk {α : Type} (H l : List α) (k : Nat) : (H ++ l)[H.length + k]? = l[k]? := by
  rw [List.getElem?_append_right (Nat.le_add_right _ _), Nat.add_sub_cancel_left]
theorem set_app0 {α : Type} (H l : List α) (x : α) : (H ++ l).set H.length x = H ++ l.set 0 x := by
  rw [List.set_append_right _ _ (Nat.le_refl _), Nat.sub_self]
theorem set_appk {α : Type} (H l : List α) (k : Nat) (x : α) : (H ++ l).set (H.length + k) x = H ++ l.set k x := by
  rw [List.set_append_right _ _ (Nat.le_add_right _ _), Nat.add_sub_cancel_left]
theorem cut_self {H : Hp} (h : H.Closed) : Hp.cut H.length H = H := by
  rw [Hp.cut, List.take_length, h _ (Nat.le_refl _)]
theorem cut_app {H : Hp} (h : H.Closed) (l : Hp) : Hp.cut H.length (H ++ l) = H := by
  rw [Hp.cut, List.take_left', h _ (Nat.le_refl _)]; rfl
/-- what was made since a place, kept up to there -/
theorem cut_appk {H : Hp} (h : H.Closed) (k : Nat) (l : Hp) : Hp.cut (H.length + k) (H ++ l) = H ++ (l.take k).map (Ob.clr (H.length + k)) := by
  rw [Hp.cut, List.take_length_add_append, List.map_append, h _ (Nat.le_add_right _ _)]
theorem rowAt_mid {α : Type} (f : α → List D) (pre r : List α) (e : α) : Zam.rowAt ((pre ++ e :: r).map f) pre.length = some (f e) := by
  simp [Zam.rowAt]

attribute [simp] tokA byteRow appVA ldV iaddrV vecSz cutLA cutVA rowsV mpGet mpPut mpOk keyOf sameK zA stepI binA intOp strOp beqA isNilS isNilP unA A.cells cutL setL ldA stA nilCheckA faddrA iaddrA boundOf sliceA lenA mmA A.toD fillA rowOf slOf A.clr A.clr1 A.clr0 A.flat A.flat0 resA resA1 Ob.clr
attribute [simp] getElem?_app0 getElem?_appk set_app0 set_appk rowAt_mid

theorem wrap_i64 {n : Int} (h1 : -9223372036854775808 ≤ n) (h2 : n ≤ 9223372036854775807) : IntKind.i64.wrap n = n := by
  simp only [IntKind.wrap, IntKind.bits, IntKind.signed, Bool.true_and, ge_iff_le, decide_eq_true_eq]
  split <;> omega
theorem wrap_u64 {n : Int} (h1 : 0 ≤ n) (h2 : n ≤ 18446744073709551615) : IntKind.u64.wrap n = n := by
  simp only [IntKind.wrap, IntKind.bits, IntKind.signed, Bool.false_and, Bool.false_eq_true, if_false]
  omega
end Go.Zam

namespace Go.Zam

/-- so many cells a field, one behind the other -/
def lays (P : Program) : List Field → Nat → Nat → Bool
  | [], off, tot => off == tot
  | f :: r, off, tot => f.offset == off && lays P r (off + P.cellsOf f.type) tot

/-- types whose readings are pure data -/
def plainT (P : Program) (ts : List TypeId) : Bool := ts.all fun t =>
  match P.underlying t with
  | some .bool | some (.int _) | some .string => true
  | some (.slice e) => ts.contains e && decide (0 < P.cellsOf e)
  | some (.struct fs) => fs.toList.all (fun f => ts.contains f.type) && lays P fs.toList 0 (P.cellsOf t)
  | _ => false

def TypedFs (T : TypeId → List D → Prop) : List Field → List D → Prop
  | [], ds => ds = []
  | f :: r, ds => ∃ a b, ds = a ++ b ∧ T f.type a ∧ TypedFs T r b

def Typed (P : Program) : Nat → TypeId → List D → Prop
  | 0, _, _ => False
  | n + 1, t, ds =>
    match P.underlying t with
    | some .bool => ∃ b, ds = [.bool b]
    | some (.int k) => ∃ x, ds = [.int k x] ∧ (Lit.int k x).wf = true
    | some .string => ∃ s, ds = [.str s]
    | some (.slice e) => ∃ z rows, ds = [.sl z (P.cellsOf e) rows] ∧ ∀ r ∈ rows, Typed P n e r
    | some (.struct fs) => TypedFs (Typed P n) fs.toList ds
    | _ => False

mutual
def D.bulk : D → Nat
  | .str s => s.length + 1
  | .sl _ _ rows => D.bulkR rows + 1
  | _ => 1
def D.bulkR : List (List D) → Nat
  | [] => 0
  | r :: rs => D.bulkC r + D.bulkR rs
def D.bulkC : List D → Nat
  | [] => 0
  | d :: ds => D.bulk d + D.bulkC ds
end

theorem D.bulkC_append (a b : List D) : D.bulkC (a ++ b) = D.bulkC a + D.bulkC b := by
  induction a with
  | nil => simp [D.bulkC]
  | cons x r ih => simp only [List.cons_append, D.bulkC, ih]; omega

/-- how a reading's size is counted -/
structure IsBulk {X : Type} (f : DataW X → Nat) (fs : List (DataW X) → Nat) : Prop where
  str : ∀ b, b.length + 1 ≤ f (.lit (.string b))
  bool : ∀ b, 1 ≤ f (.lit (.bool b))
  int : ∀ k n, 1 ≤ f (.lit (.int k n))
  nil : 1 ≤ f .nil
  slice : ∀ e s, fs e + 1 ≤ f (.slice e s)
  agg : ∀ p, fs p ≤ f (.agg p)
  cons : ∀ d r, f d + fs r ≤ fs (d :: r)

def wst (w : World) : St := fun b o => w.cell? ⟨b, o, none⟩

section
variable {X : Type} {enc : TypeId × Value → X} {P : Program} {w : World} {base : Nat} {spare : Nat → Bool} {held : Bool}

theorem fields_read {ts : List TypeId} {f : DataW X → Nat} {fs : List (DataW X) → Nat} (B : IsBulk f fs) {n : Nat}
    (ih : ∀ (t : TypeId) (cs : List Value) (x : DataW X × List MemPlace), DataW.trod enc P w base spare held n t cs = some x → t ∈ ts →
      ∃ ds : List D, ds.length = cs.length ∧ Typed P n t ds ∧ D.bulkC ds ≤ f x.1 ∧ ∀ (i : Nat) (v : Value) (d : D), cs[i]? = some v → ds[i]? = some d → DR (wst w) v d) (cs : List Value) :
    ∀ (l : List Field) (off : Nat) (xs : List (DataW X × List MemPlace)), lays P l off cs.length = true → (∀ g ∈ l, g.type ∈ ts) → xs.length = l.length →
      (∀ (i : Nat) (g : Field), l[i]? = some g → DataW.trod enc P w base spare held n g.type ((cs.drop g.offset).take (P.cellsOf g.type)) = xs[i]?) → off ≤ cs.length →
      ∃ ds : List D, ds.length + off = cs.length ∧ TypedFs (Typed P n) l ds ∧ D.bulkC ds ≤ fs (xs.map (·.1)) ∧ ∀ (i : Nat) (v : Value) (d : D), cs[off + i]? = some v → ds[i]? = some d → DR (wst w) v d
  | [], off, xs, hl, _, hx, _, _ => by
    simp only [lays, beq_iff_eq] at hl
    refine ⟨[], by simp [hl], rfl, by simp [D.bulkC], by simp⟩
  | g :: r, off, xs, hl, hm, hx, hr, hoff => by
    simp only [lays, Bool.and_eq_true, beq_iff_eq] at hl
    obtain ⟨h1, h2⟩ := hl
    cases xs with
    | nil => simp at hx
    | cons x xs =>
    have h0 := hr 0 g rfl
    simp only [List.getElem?_cons_zero] at h0
    obtain ⟨a, ha1, ha2, ha3, ha4⟩ := ih _ _ _ h0 (hm g (by simp))
    have hle : off + P.cellsOf g.type ≤ cs.length := by
      have : ∀ (l : List Field) (o tot : Nat), lays P l o tot = true → o ≤ tot := by
        intro l
        induction l with
        | nil => intro o tot h; simp [lays] at h; omega
        | cons y l ih => intro o tot h; simp [lays] at h; have := ih _ _ h.2; omega
      exact this _ _ _ h2
    have hal : a.length = P.cellsOf g.type := by rw [ha1, h1]; simp; omega
    obtain ⟨b, hb1, hb2, hb3, hb4⟩ := fields_read B ih cs r (off + P.cellsOf g.type) xs h2 (fun g' hg => hm g' (by simp [hg])) (by simpa using hx) (fun i g' hi => by have := hr (i + 1) g' (by simpa using hi); simpa using this) hle
    refine ⟨a ++ b, by simp; omega, ⟨a, b, rfl, ha2, hb2⟩, ?_, fun i v d hv hd => ?_⟩
    · rw [D.bulkC_append]
      have := B.cons x.1 (xs.map (·.1))
      simp only [List.map_cons]
      omega
    · by_cases hi : i < a.length
      · rw [List.getElem?_append_left hi] at hd
        refine ha4 i v d ?_ hd
        rw [h1, List.getElem?_take, List.getElem?_drop, if_pos (by omega)]
        exact hv
      · rw [List.getElem?_append_right (by omega)] at hd
        refine hb4 (i - a.length) v d ?_ hd
        rw [show off + P.cellsOf g.type + (i - a.length) = off + i by omega]
        exact hv

theorem rows_read {f : DataW X → Nat} {fs : List (DataW X) → Nat} (B : IsBulk f fs) : ∀ (rows : List (List D)) (l : List (DataW X)), rows.length = l.length → (∀ (i : Nat) (r : List D) (d : DataW X), rows[i]? = some r → l[i]? = some d → D.bulkC r ≤ f d) → D.bulkR rows ≤ fs l
  | [], l, _, _ => by simp [D.bulkR]
  | r :: rows, [], h, _ => by simp at h
  | r :: rows, d :: l, h, hi => by
    have h1 := hi 0 r d rfl rfl
    have h2 := rows_read B rows l (by simpa using h) (fun i r' d' hr hd => hi (i + 1) r' d' (by simpa using hr) (by simpa using hd))
    have h3 := B.cons d l
    simp only [D.bulkR]
    omega

/-- A READING OF PLAIN DATA, AS DATA OF THE MACHINE -/
theorem trod_read {ts : List TypeId} (hp : plainT P ts = true) {f : DataW X → Nat} {fs : List (DataW X) → Nat} (B : IsBulk f fs) : ∀ (n : Nat) (t : TypeId) (cs : List Value) (x : DataW X × List MemPlace),
    DataW.trod enc P w base spare held n t cs = some x → t ∈ ts →
      ∃ ds : List D, ds.length = cs.length ∧ Typed P n t ds ∧ D.bulkC ds ≤ f x.1 ∧ ∀ (i : Nat) (v : Value) (d : D), cs[i]? = some v → ds[i]? = some d → DR (wst w) v d
  | 0, t, cs, x, h, _ => by simp [DataW.trod] at h
  | n + 1, t, cs, x, h, ht => by
    have hpt := List.all_eq_true.1 hp t ht
    have one : ∀ (v : Value) (d : D), DR (wst w) v d → ∀ (i : Nat) (v' : Value) (d' : D), [v][i]? = some v' → [d][i]? = some d' → DR (wst w) v' d' := fun v d hd i v' d' h1 h2 => by
      cases i with
      | zero => simp at h1 h2; subst h1; subst h2; exact hd
      | succ i => simp at h1
    split at hpt
    · rename_i hu
      obtain ⟨b, rfl, rfl⟩ := DataW.trod_bool hu h
      exact ⟨[.bool b], rfl, by simp [Typed, hu], by have := B.bool b; simpa [D.bulkC, D.bulk] using this, one _ _ (.bool b)⟩
    · rename_i k hu
      obtain ⟨m, rfl, rfl, hw⟩ := DataW.trod_int hu h
      exact ⟨[.int k m], rfl, by simp [Typed, hu, hw], by have := B.int k m; simpa [D.bulkC, D.bulk] using this, one _ _ (.int k m)⟩
    · rename_i hu
      obtain ⟨s, rfl, rfl, hw⟩ := DataW.trod_string hu h
      exact ⟨[.str s.data.toList], rfl, by simp [Typed, hu], by have := B.str s.data.toList; simpa [D.bulkC, D.bulk] using this, one _ _ (.str s)⟩
    · rename_i e hu
      simp only [Bool.and_eq_true, List.contains_iff_mem, decide_eq_true_eq] at hpt
      obtain ⟨he, hpos⟩ := hpt
      rcases DataW.trod_slice hu h with ⟨rfl, rfl⟩ | ⟨a, len, cap, elems, rest, n', hn, rfl, rfl, hb, hlc, hcm, hel, hread, -, -⟩
      · exact ⟨[.sl true (P.cellsOf e) []], rfl, by simp [Typed, hu], by have := B.nil; simpa [D.bulkC, D.bulk, D.bulkR] using this, one _ _ (.nilsl _)⟩
      · cases hn
        have each : ∀ i, i < len → ∃ (r : List D) (cs' : List Value) (y : DataW X × List MemPlace), elems[i]? = some y ∧ w.cells? base (a.add (i * P.cellsOf e)) (P.cellsOf e) = some cs' ∧ r.length = cs'.length ∧ Typed P n e r ∧ D.bulkC r ≤ f y.1 ∧
            ∀ (j : Nat) (v : Value) (d : D), cs'[j]? = some v → r[j]? = some d → DR (wst w) v d := fun i hi => by
          have h1 := hread i hi
          have h2 : elems[i]? = some (elems[i]'(by omega)) := List.getElem?_eq_getElem (by omega)
          rw [h2] at h1
          obtain ⟨cs', h3, h4⟩ := Option.bind_eq_some_iff.1 h1
          obtain ⟨r, r1, r2, r3, r4⟩ := trod_read hp B n e cs' _ h4 he
          exact ⟨r, cs', _, h2, h3, r1, r2, r3, r4⟩
        have each' : ∀ i : Nat, ∃ (r : List D), i < len → ∃ (cs' : List Value) (y : DataW X × List MemPlace), elems[i]? = some y ∧ w.cells? base (a.add (i * P.cellsOf e)) (P.cellsOf e) = some cs' ∧ r.length = cs'.length ∧ Typed P n e r ∧ D.bulkC r ≤ f y.1 ∧
            ∀ (j : Nat) (v : Value) (d : D), cs'[j]? = some v → r[j]? = some d → DR (wst w) v d := fun i => by
          by_cases hi : i < len
          · obtain ⟨r, h⟩ := each i hi; exact ⟨r, fun _ => h⟩
          · exact ⟨[], fun h => absurd h hi⟩
        obtain ⟨R, hR⟩ := Classical.axiomOfChoice each'
        have hrows : ∀ (i : Nat) (r : List D), ((List.range len).map R)[i]? = some r → i < len ∧ r = R i := fun i r hr => by
          simp only [List.getElem?_map, Option.map_eq_some_iff] at hr
          obtain ⟨k, hk, rfl⟩ := hr
          obtain ⟨hk1, hk2⟩ := List.getElem?_eq_some_iff.1 hk
          simp at hk1 hk2
          subst hk2
          exact ⟨hk1, rfl⟩
        refine ⟨[.sl (decide (len ≠ 0)) (P.cellsOf e) ((List.range len).map R)], rfl, ?_, ?_, ?_⟩
        · simp only [Typed, hu]
          refine ⟨_, _, rfl, fun r hr => ?_⟩
          obtain ⟨i, hi, rfl⟩ := List.mem_map.1 hr
          obtain ⟨cs', y, -, -, -, h5, -⟩ := hR i (by simpa using hi)
          exact h5
        · have h1 := rows_read B ((List.range len).map R) (elems.map (·.1)) (by simp [hel]) (fun i r d hr hd => by
            obtain ⟨hi, rfl⟩ := hrows i r hr
            obtain ⟨cs', y, h3, -, -, -, h6, -⟩ := hR i hi
            simp only [List.getElem?_map, h3, Option.map_some, Option.some.injEq] at hd
            subst hd; exact h6)
          have h2 := B.slice (elems.map (·.1)) (rest.map (·.1))
          simp only [D.bulkC, D.bulk]
          omega
        · refine one _ _ ?_
          cases len with
          | zero => exact .emp _ _ _
          | succ m =>
            have hcell : ∀ (i j : Nat) (r : List D) (d : D), ((List.range (m + 1)).map R)[i]? = some r → r[j]? = some d → r.length = P.cellsOf e ∧ ∃ v, w.cell? ((a.add (i * P.cellsOf e)).add j) = some v ∧ DR (wst w) v d := fun i j r d hr hd => by
              obtain ⟨hi, rfl⟩ := hrows i r hr
              obtain ⟨cs', y, -, h3, h4, -, -, h7⟩ := hR i hi
              obtain ⟨-, hcl, hat⟩ := World.cells?_some h3
              have hj : j < (R i).length := (List.getElem?_eq_some_iff.1 hd).1
              have hv : cs'[j]? = some (cs'[j]'(by omega)) := List.getElem?_eq_getElem (by omega)
              exact ⟨by omega, _, (hat j (by omega)).trans hv, h7 j _ d hv hd⟩
            obtain ⟨b, o, s⟩ := a
            have hs : s = none := by
              obtain ⟨cs', y, -, h3, h4, -⟩ := hR 0 (by omega)
              obtain ⟨-, hcl, hat⟩ := World.cells?_some h3
              have hv : cs'[0]? = some (cs'[0]'(by omega)) := List.getElem?_eq_getElem (by omega)
              have := (hat 0 hpos).trans hv
              rw [show ((⟨b, o, s⟩ : Addr).add (0 * P.cellsOf e)).add 0 = ⟨b, o, s⟩ by simp [Addr.add]] at this
              unfold World.cell? at this
              split at this
              · split at this
                · cases this
                · rename_i hns
                  cases s with
                  | none => rfl
                  | some q => exact absurd rfl hns
              · cases this
            subst hs
            have hval : ∀ (i j : Nat), ∃ v : Value, ∀ (r : List D) (d : D), ((List.range (m + 1)).map R)[i]? = some r → r[j]? = some d → wst w b (o + i * P.cellsOf e + j) = some v ∧ DR (wst w) v d := fun i j => by
              by_cases hx : ∃ (r : List D) (d : D), ((List.range (m + 1)).map R)[i]? = some r ∧ r[j]? = some d
              · obtain ⟨r, d, hr, hd⟩ := hx
                obtain ⟨-, v, hv1, hv2⟩ := hcell i j r d hr hd
                refine ⟨v, fun r' d' hr' hd' => ?_⟩
                rw [hr] at hr'; cases hr'
                rw [hd] at hd'; cases hd'
                rw [add_mk, add_mk] at hv1
                exact ⟨hv1, hv2⟩
              · exact ⟨.tuple #[], fun r d hr hd => absurd ⟨r, d, hr, hd⟩ hx⟩
            obtain ⟨F, hF⟩ := Classical.axiomOfChoice fun i => Classical.axiomOfChoice (hval i)
            have := DR.sl (σ := wst w) (decide (m + 1 ≠ 0)) (P.cellsOf e) ((List.range (m + 1)).map R) b o cap F (fun _ hh => by simp at hh) (by simpa using hlc) (fun i r hr => by
                obtain ⟨hi, rfl⟩ := hrows i r hr
                obtain ⟨cs', y, -, h3, h4, -⟩ := hR i hi
                obtain ⟨-, hcl, -⟩ := World.cells?_some h3
                omega) (fun i j r d hr hd => (hF i j r d hr hd).1) (fun i j r d hr hd => (hF i j r d hr hd).2)
            simpa using this
    · rename_i gs hu
      simp only [Bool.and_eq_true, List.all_eq_true, List.contains_iff_mem] at hpt
      obtain ⟨hm, hl⟩ := hpt
      obtain ⟨xs, n', hn, rfl, hcl, hxl, hr⟩ := DataW.trod_struct hu h
      cases hn
      rw [← hcl] at hl
      obtain ⟨ds, d1, d2, d3, d4⟩ := fields_read B (fun t cs x h ht => trod_read hp B n t cs x h ht) cs gs.toList 0 xs hl (fun g hg => hm g hg) (by simpa using hxl) (fun i g hi => hr i g (by simpa using hi)) (Nat.zero_le _)
      refine ⟨ds, by omega, by simp only [Typed, hu]; exact d2, Nat.le_trans d3 (B.agg _), fun i v d hv hd => d4 i v d (by simpa using hv) hd⟩
    · cases hpt

end
end Go.Zam

namespace Go.Zam
open Go.RowKit Go.ChangeShapes Go.WideShapes

section
variable {X : Type} {enc : TypeId × Value → X} {P : Program} {W W' : World}

theorem stays {sp : Nat → Bool} (hl : laidOutB P = true) (hb : Below W.heap.size W W') : ∀ {ts : List TypeId} {vs : List Value} {ds : List (DataW X)} {ps : List MemPlace},
    (∀ t ∈ ts, P.readableRec t = true ∧ t < P.types.size) → DataW.TrodAll enc P W 0 (fun _ => true) true ts vs ds ps → (∀ x ∈ ps, x.block < W.heap.size) → (∀ x ∈ ps, sp x.block = true) →
      DataW.TrodAll enc P W' 0 sp true ts vs ds ps
  | [], [], [], _, _, h, _, _ => h
  | _ :: _, _ :: _, _ :: _, _, ht, ⟨p, q, h1, h2, e⟩, hlt, hs =>
    ⟨p, q, WideElems.Trod_stays hl (ht _ (by simp)).1 (ht _ (by simp)).2 h1 (fun x hx => hb.same (hlt x (by rw [e]; exact List.mem_append_left _ hx))) (fun x hx => hs x (by rw [e]; exact List.mem_append_left _ hx)),
      stays hl hb (fun t h => ht t (by simp [h])) h2 (fun x hx => hlt x (by rw [e]; exact List.mem_append_right _ hx)) (fun x hx => hs x (by rw [e]; exact List.mem_append_right _ hx)), e⟩

/-- A LAW's ROW: it returned true, and below the heap's old end nothing has turned -/
theorem post_law {f : Func} {s : ChangeSpec} {apart fresh handsOn again : Bool} {args : Array Value} {ds gs : List (DataW X)} {before : List MemPlace} {bt : TypeId} (hl : laidOutB P = true)
    (hW : DataW.Whole enc P f.params.toList s.vars apart W args.toList ds gs before) (hv : s.vars = []) (hr : f.resultTypes = #[bt]) (hbt : P.underlying bt = some .bool)
    (hp : ∀ t ∈ f.params.toList, P.readableRec t = true ∧ t < P.types.size) (h1 : (s.fn X ds).results = [.lit (.bool true)]) (h2 : (s.fn X ds).args = ds) (h3 : (s.fn X ds).vars = []) (hb : Below W.heap.size W W') :
    s.post enc P f apart fresh handsOn again W args (.bool true) W' := by
  have hW0 := hW
  obtain ⟨p, q, hA, hV, rfl, hz, hn⟩ := hW
  rw [hv] at hV
  obtain ⟨rfl, rfl⟩ : gs = [] ∧ q = [] := by
    cases gs with
    | nil => exact ⟨rfl, hV⟩
    | cons g gs => exact hV.elim
  have hlt : ∀ x ∈ p, x.block < W.heap.size := fun x hx => hW0.lt x (by simpa using hx)
  have hargs : ∀ sp : Nat → Bool, (∀ x ∈ p, sp x.block = true) → DataW.TrodAll enc P W' 0 sp true f.params.toList args.toList (s.fn X (ds ++ [])).args p := fun sp hs => by
    rw [List.append_nil, h2]; exact stays hl hb hp hA hlt hs
  have hres : ∀ (b : Nat) (sp : Nat → Bool) (hd : Bool), DataW.TrodAll enc P W' b sp hd f.resultTypes.toList ((Value.bool true).resultList f.resultTypes.size) (s.fn X (ds ++ [])).results [] := fun b sp hd => by
    rw [List.append_nil, h1, hr]
    exact trodAll_cons_mk (shut_bool hbt true) trodAll_mk0
  have hvars : ∀ sp : Nat → Bool, DataW.TrodVars enc P W' sp s.vars (s.fn X (ds ++ [])).vars [] := fun sp => by
    rw [List.append_nil, h3, hv]; rfl
  refine ⟨ds, [], p ++ [], [], p, [], hW0, hres _ _ _, hargs _ (fun x hx => by simpa using hlt x hx), hvars _, World.keptBut_mono (fun x hx => ⟨hx, .inr (List.mem_append.1 hx)⟩) (hb.frame (· ∈ p ++ [])), fun _ => ?_⟩
  refine ⟨ok_one (t := bt) hr rfl (okWide_bool_mk hbt true), _, _, ([] ++ p) ++ [], ⟨[] ++ p, [], trodAll_append (hargs _ (fun _ _ => rfl)) (hres _ _ _), hvars _, rfl, ?_, ?_⟩, ?_⟩
  · intro b off hx
    have : MemPlace.cell b off ∈ p := by simpa using hx
    rw [hb.frozen (hlt _ this)]
    exact hz b off (by simpa using this)
  · intro ha
    have := hn ha
    simpa using this
  · intro x hx _
    simpa using hx

/-- an argument of the machine for a parameter -/
def ArgOf (P : Program) (t : TypeId) (ds : List D) (a : A) : Prop :=
  match P.underlying t with
  | some (.struct _) => a = .agg (ds.map .d)
  | _ => ∃ x, ds = [x] ∧ a = .d x

def kst (W : World) : K := ⟨W, wst W, fun _ => .none⟩

theorem arg_read {ts : List TypeId} (hp : plainT P ts = true) {f : DataW X → Nat} {fs : List (DataW X) → Nat} (B : IsBulk f fs) {t : TypeId} (ht : t ∈ ts) {b0 base : Nat} {sp : Nat → Bool} {held : Bool} {v : Value} {d : DataW X} {p : List MemPlace}
    (hv : Value.okWide P W .any b0 t v) (h : DataW.Trod enc P W base sp held t v d p) : ∃ n ds a, Typed P n t ds ∧ D.bulkC ds ≤ f d ∧ ArgOf P t ds a ∧ VR (kst W) v a := by
  obtain ⟨n, h⟩ := h
  obtain ⟨ds, h1, h2, h3, h4⟩ := trod_read hp B n t _ _ h ht
  have hpt := List.all_eq_true.1 hp t ht
  have one : v.cells = #[v] → (∀ fs, P.underlying t ≠ some (.struct fs)) → ∃ n ds a, Typed P n t ds ∧ D.bulkC ds ≤ f d ∧ ArgOf P t ds a ∧ VR (kst W) v a := fun hc hs => by
    rw [hc] at h1 h4
    match ds, h1 with
    | [x], _ =>
      refine ⟨n, [x], .d x, h2, h3, ?_, .d (h4 0 v x rfl rfl)⟩
      unfold ArgOf
      split
      · rename_i fs e; exact absurd e (hs fs)
      · exact ⟨x, rfl, rfl⟩
  split at hpt
  · rename_i hu
    simp only [Value.okWide, hu, Cell.okWide, Cell.ok] at hv
    refine one ?_ (by simp [hu])
    cases v <;> first | rfl | exact hv.elim
  · rename_i k hu
    simp only [Value.okWide, hu, Cell.okWide, Cell.ok] at hv
    refine one ?_ (by simp [hu])
    cases v <;> first | rfl | exact hv.elim
  · rename_i hu
    simp only [Value.okWide, hu, Cell.okWide, Cell.ok] at hv
    refine one ?_ (by simp [hu])
    cases v <;> first | rfl | exact hv.elim
  · rename_i e hu
    simp only [Value.okWide, hu, Cell.okWide, Cell.ok] at hv
    refine one ?_ (by simp [hu])
    cases v <;> first | rfl | exact hv.elim
  · rename_i gs hu
    simp only [Value.okWide, hu] at hv
    obtain ⟨cs, rfl, -, -⟩ := hv
    refine ⟨n, ds, .agg (ds.map .d), h2, h3, by simp [ArgOf, hu], ?_⟩
    have h1' : ds.length = cs.toList.length := h1
    have := VR.agg (κ := kst W) cs.toList (ds.map A.d) (by simp [h1']) (fun i v a hi ha => by
      simp only [List.getElem?_map, Option.map_eq_some_iff] at ha
      obtain ⟨x, hx, rfl⟩ := ha
      exact .d (h4 i v x hi hx))
    simpa using this
  · cases hpt

/-- the arguments of the machine for parameters, and how much they hold -/
def ArgsOf (P : Program) : List TypeId → List A → Nat → Prop
  | [], ars, _ => ars = []
  | t :: ts, ars, b => ∃ n ds a r b', ars = a :: r ∧ Typed P n t ds ∧ ArgOf P t ds a ∧ ArgsOf P ts r b' ∧ D.bulkC ds + b' ≤ b

theorem args_read {ts : List TypeId} (hp : plainT P ts = true) {f : DataW X → Nat} {fs : List (DataW X) → Nat} (B : IsBulk f fs) {b0 base : Nat} {sp : Nat → Bool} {held : Bool} : ∀ {us : List TypeId} {vs : List Value} {ds : List (DataW X)} {ps : List MemPlace},
    (∀ t ∈ us, t ∈ ts) → (∀ (j : Nat) (t : TypeId) (v : Value), us[j]? = some t → vs[j]? = some v → Value.okWide P W .any b0 t v) → DataW.TrodAll enc P W base sp held us vs ds ps →
      ∃ ars, ArgsOf P us ars (fs ds) ∧ vs.length = ars.length ∧ ∀ (i : Nat) (v : Value) (a : A), vs[i]? = some v → ars[i]? = some a → VR (kst W) v a
  | [], [], [], _, _, _, _ => ⟨[], rfl, rfl, by simp⟩
  | t :: us, v :: vs, d :: ds, _, hu, hv, ⟨p, q, h1, h2, _⟩ => by
    obtain ⟨n, cs, a, a1, a2, a3, a4⟩ := arg_read hp B (hu t (by simp)) (hv 0 t v rfl rfl) h1
    obtain ⟨ars, b1, b2, b3⟩ := args_read hp B (fun t ht => hu t (by simp [ht])) (fun j t v ht hv' => hv (j + 1) t v (by simpa using ht) (by simpa using hv')) h2
    refine ⟨a :: ars, ⟨n, cs, a, ars, fs ds, rfl, a1, a3, b1, ?_⟩, by simp [b2], fun i u x hx hy => ?_⟩
    · have := B.cons d ds; omega
    · cases i with
      | zero => simp at hx hy; subst hx; subst hy; exact a4
      | succ i => exact b3 i u x (by simpa using hx) (by simpa using hy)

theorem kst_hr (W : World) : HR (kst W) [] W :=
  ⟨Below.refl _ _, fun _ _ _ h => h, by simp, fun _ _ => rfl, by simp [kst, Bind.block], by simp [kst, Bind.owns], by simp [kst, Bind.block], by simp⟩

/-- A LAW, FROM ITS CALL ON THE MACHINE -/
theorem law_of {f : FuncId} {fn : Func} {s : ChangeSpec} {apart fresh handsOn again : Bool} {args : Array Value} {ds gs : List (DataW X)} {before : List MemPlace} {bt : TypeId} {base : Nat} {ts : List TypeId} (hl : laidOutB P = true) (hpl : plainT P ts = true)
    {g : DataW X → Nat} {gl : List (DataW X) → Nat} (B : IsBulk g gl)
    (hval : ∀ (j : Nat) (t : TypeId) (v : Value), fn.params[j]? = some t → args[j]? = some v → Value.okWide P W .any base t v)
    (hW : DataW.Whole enc P fn.params.toList s.vars apart W args.toList ds gs before) (hv : s.vars = []) (hr : fn.resultTypes = #[bt]) (hbt : P.underlying bt = some .bool)
    (hp : ∀ t ∈ fn.params.toList, t ∈ ts ∧ P.readableRec t = true ∧ t < P.types.size) (h1 : (s.fn X ds).results = [.lit (.bool true)]) (h2 : (s.fn X ds).args = ds) (h3 : (s.fn X ds).vars = [])
    (h : ∀ ars, ArgsOf P fn.params.toList ars (gl ds) → ACall P f ars [] (fun r _ => r = .d (.bool true))) :
    Calls P f args W fun e W' => ∃ v, e = .returned v ∧ s.post enc P fn apart fresh handsOn again W args v W' := by
  have hW0 := hW
  obtain ⟨p, q, hA, -⟩ := hW
  obtain ⟨ars, a1, a2, a3⟩ := args_read hpl B (fun t ht => (hp t ht).1) (fun j t v ht hv' => hval j t v (by simpa using ht) (by simpa using hv')) hA
  refine (h ars a1 (kst W) W args.toList (kst_hr W) a2 a3).mono fun e W' ⟨v, κ', x, H', he, hk, hh, hvr, hx⟩ => ?_
  subst hx
  have hvt : v = .bool true := by
    cases hvr with | d h => cases h; rfl
  subst hvt
  refine ⟨_, he, post_law hl hW0 hv hr hbt (fun t ht => (hp t ht).2) h1 h2 h3 ?_⟩
  have := hh.below
  rw [hk.w0] at this
  exact this

end
end Go.Zam

namespace Go.Zam
open Go.RowKit Go.Proofs Go.Shelf

/-- bytes of a token's row are frozen -/
theorem HR.freeze {κ : K} {H : Hp} {w : World} (h : HR κ H w) {t b e c n m sz : Nat} {ty : TypeId} (ht : H[t]? = some (.tok n sz ty)) (hb : κ.β t = .reg b e c m sz) (hm : m ≤ e) (hmn : m = n) (hs1 : sz = 1) : HR κ H (w.freeze ⟨b, 0, none⟩ m) := by
  subst hmn
  by_cases h0 : m = 0
  · subst h0; simp only [World.freeze, if_true]; exact h
  have hne : ∀ k, k ≠ b → (w.freeze ⟨b, 0, none⟩ m).heap[k]? = w.heap[k]? := fun k hk => by
    simp only [World.freeze, h0, if_false, Array.getElem?_modify]
    rw [if_neg (Ne.symm hk)]
  have hcell : ∀ a : Addr, (w.freeze ⟨b, 0, none⟩ m).cell? a = w.cell? a := fun a => by
    by_cases ha : a.block = b
    · simp only [World.cell?, World.freeze, h0, if_false, Array.getElem?_modify, ha, if_true]
      cases w.heap[b]? with
      | none => rfl
      | some o => cases o <;> rfl
    · simp only [World.cell?, hne _ ha]
  have hsz : (w.freeze ⟨b, 0, none⟩ m).heap.size = w.heap.size := by simp [World.freeze, h0]
  have hex := h.ex t b (by rw [hb]; rfl)
  refine ⟨?_, fun b' o v hv => (hcell _).trans (h.st b' o v hv), fun i x hx => ?_, h.dom, fun i b' hi => ?_, h.exσ, h.exd, h.fl⟩
  · refine h.below.trans ⟨by simp [World.freeze, h0], by simp [World.freeze, h0], by simp [World.freeze, h0], by rw [hsz]; exact Nat.le_refl _, fun k hk => hne k (by omega)⟩
  · by_cases hit : i = t
    · subst hit
      rw [ht] at hx; cases hx
      rcases h.ob i _ ht with ⟨h1, -⟩ | ⟨b', e', c', cur, lo, hi, h1, h2, h3, h4⟩
      · rw [hb] at h1; cases h1
      · rw [hb] at h1; cases h1
        refine .inr ⟨b, e, c, cur, (if lo == hi then (0, 0 + m) else (min lo 0, max hi (0 + m))).1, (if lo == hi then (0, 0 + m) else (min lo 0, max hi (0 + m))).2, hb, ?_, h3, ?_⟩
        · simp only [World.freeze, h0, if_false, Array.getElem?_modify, if_true, h2, Option.map_some]
        · right
          refine ⟨hs1, ?_⟩
          by_cases hlh : lo = hi
          · simp [hlh]; exact hm
          · have : (lo == hi) = false := by simpa using hlh
            simp only [this, Bool.false_eq_true, if_false]
            rcases h4 with ⟨h4, h5⟩ | ⟨-, h4⟩
            · exact absurd (h4.trans h5.symm) hlh
            · omega
    · refine (h.ob i x hx).mono (K.le_refl κ) rfl fun b' hb' => hne b' fun e => ?_
      subst e
      exact hit (h.exd i t b' hb' (by rw [hb]; rfl))
  · rw [hsz]; exact h.ex i b' hi

section
variable {P : Program} {ρ : Ren}

theorem copyCheck_acall (L : Lays.n240 P ρ) (X : Builder.X72 P ρ) {H : Hp} {i : Nat} {x a : A} (hi : H[i]? = some (.box (ρ.t 72) [a, x])) (ha : a = .d .nilp ∨ a = .ptr i 0) :
    ACall P (ρ.f 240) [.ptr i 0] H (fun r H' => r = .tup [] ∧ H' = H.set i (.box (ρ.t 72) [.ptr i 0, x])) := by
  intro κ w vs hr hl hv
  match vs, hl with
  | [v], _ =>
  have hv0 := hv 0 v _ rfl rfl
  cases hv0 with
  | ptr _ _ b hb =>
  obtain ⟨b', hb', hsh, hc⟩ := hr.ob i _ hi
  have hbb : b' = b := by rw [hb] at hb'; cases hb'; rfl
  subst hbb
  obtain ⟨u, hu1, hu2, hu3⟩ := hc 0 a rfl
  rcases ha with rfl | rfl
  · have hu : u = .pointer none := by cases hu3 with | d h => cases h; rfl
    subst hu
    refine (Any.Builder_copyCheck_fresh L X b' w hu1 hsh hu2).mono fun e w' ⟨he, hw⟩ => ?_
    subst hw
    exact ⟨_, κ, .tup [], _, he, K.le_refl κ, hr.setBox (j := 0) hi hb (by simp) rfl (.ptr i 0 b' hb), .tup [] [] rfl (by simp), rfl, rfl⟩
  · have hu : u = .pointer (some ⟨b', 0, none⟩) := by
      cases hu3 with | ptr _ _ b2 h2 => rw [hb] at h2; cases h2; rfl
    subst hu
    refine (Any.Builder_copyCheck_used L X b' w hu1).mono fun e w' ⟨he, hw⟩ => ?_
    subst hw
    refine ⟨_, κ, .tup [], H, he, K.le_refl κ, hr, .tup [] [] rfl (by simp), rfl, ?_⟩
    refine List.ext_getElem? fun j => ?_
    by_cases hj : i = j
    · subst hj; rw [List.getElem?_set_self (List.getElem?_eq_some_iff.1 hi).1, hi]
    · rw [List.getElem?_set_ne hj]

set_option maxHeartbeats 1000000 in
set_option maxRecDepth 100000 in
theorem Builder_String_row (L : Lays.n169 P ρ) (X : Builder.Extra P ρ) (b g cap cells : Nat) (l : List UInt8) (w : World) (h0 : l ≠ []) (c0 : w.cell? ⟨b, 1, none⟩ = some (.slice (some ⟨g, 0, none⟩) l.length cap)) (hcap : l.length ≤ cap) (hcells : l.length ≤ cells)
    (hsh : w.shape? g = some (ρ.t 5, cells)) (h63 : l.length ≤ 9223372036854775807) (hb : ∀ j x, l[j]? = some x → w.cell? ⟨g, j, none⟩ = some (.int .u8 x.toNat)) :
    Calls P (ρ.f 169) #[.pointer (some ⟨b, 0, none⟩)] w fun e w' => e = .returned (.string ⟨l.toArray⟩) ∧ w' = w.drew.freeze ⟨g, 0, none⟩ l.length := by
  have hl0 : l.length ≠ 0 := by simpa using h0
  have c1 : w.drew.cell? ⟨b, 1, none⟩ = some (.slice (some ⟨g, 0, none⟩) l.length cap) := c0
  have hSD : (Builtin.unsafeSliceData_ #[(ρ.t 37)] (ρ.t 127) #[.slice (some ⟨g, 0, none⟩) l.length cap]).run P w.drew = .ok (.pointer (some ⟨g, 0, none⟩)) w.drew :=
    Lib.run_unsafeSliceData_row _ _ _ _ _ _ (by omega)
  have hUS : (Builtin.unsafeString_ #[(ρ.t 127), (ρ.t 3)] (ρ.t 9) #[.pointer (some ⟨g, 0, none⟩), .int .i64 l.length]).run P w.drew = .ok (.string ⟨l.toArray⟩) (w.drew.freeze ⟨g, 0, none⟩ l.length) := by
    refine Lib.run_unsafeString_row w.drew (ρ.t 127) (ρ.t 3) (ρ.t 9) (ρ.t 5) L.t127 X.cellsByte g cells hsh l h0 hcells h63 ?_
    intro j x hx
    have := hb j x hx
    rw [add_mk, Nat.zero_add]; exact this
  have mixed := L.mixed
  have t72 := L.t72; have a72 := L.a72; have z72 := L.z72; have v72 := L.v72; have u72 := run_underlying L.t72
  have t70 := L.t70; have a70 := L.a70; have z70 := L.z70; have v70 := L.v70; have u70 := run_underlying L.t70
  have t37 := L.t37; have a37 := L.a37; have z37 := L.z37; have v37 := L.v37; have u37 := run_underlying L.t37
  have t127 := L.t127; have a127 := L.a127; have z127 := L.z127; have v127 := L.v127; have u127 := run_underlying L.t127
  have t3 := L.t3; have a3 := L.a3; have z3 := L.z3; have v3 := L.v3; have u3 := run_underlying L.t3
  have t9 := L.t9; have a9 := L.a9; have z9 := L.z9; have v9 := L.v9; have u9 := run_underlying L.t9
  have t5 := X.t5; have a5 := X.a5; have z5 := X.z5; have v5 := X.v5; have u5 := run_underlying X.t5
  go_enter L.f169, Body.n169_ntmps ρ
  go_wp2
  go_region_o
  all_goals (go_wp2; go_ret; exact ⟨rfl, rfl⟩)

set_option maxHeartbeats 1000000 in
set_option maxRecDepth 100000 in
theorem Builder_String_nil' (L : Lays.n169 P ρ) (X : Builder.Extra P ρ) (b : Nat) (w : World) (c0 : w.cell? ⟨b, 1, none⟩ = some (.slice none 0 0)) :
    Calls P (ρ.f 169) #[.pointer (some ⟨b, 0, none⟩)] w fun e w' => e = .returned (.string ⟨#[]⟩) ∧ w' = w.drew := by
  have hUS := Any.unsafeString_none L X
  have c1 : w.drew.cell? ⟨b, 1, none⟩ = some (.slice none 0 0) := c0
  have hSD : (Builtin.unsafeSliceData_ #[(ρ.t 37)] (ρ.t 127) #[.slice none 0 0]).run P w.drew = .ok (.pointer none) w.drew := Lib.run_unsafeSliceData_nil _ _ _ _ _
  have mixed := L.mixed
  have t72 := L.t72; have a72 := L.a72; have z72 := L.z72; have v72 := L.v72; have u72 := run_underlying L.t72
  have t70 := L.t70; have a70 := L.a70; have z70 := L.z70; have v70 := L.v70; have u70 := run_underlying L.t70
  have t37 := L.t37; have a37 := L.a37; have z37 := L.z37; have v37 := L.v37; have u37 := run_underlying L.t37
  have t127 := L.t127; have a127 := L.a127; have z127 := L.z127; have v127 := L.v127; have u127 := run_underlying L.t127
  have t3 := L.t3; have a3 := L.a3; have z3 := L.z3; have v3 := L.v3; have u3 := run_underlying L.t3
  have t9 := L.t9; have a9 := L.a9; have z9 := L.z9; have v9 := L.v9; have u9 := run_underlying L.t9
  have t5 := X.t5; have a5 := X.a5; have z5 := X.z5; have v5 := X.v5; have u5 := run_underlying X.t5
  go_enter L.f169, Body.n169_ntmps ρ
  go_wp2
  go_region_o
  all_goals (go_wp2; go_ret; exact ⟨rfl, rfl⟩)

theorem string_acall (L : Lays.n169 P ρ) (X : Builder.Extra P ρ) {H : Hp} {i t : Nat} {a : A} {s : List UInt8} (hi : H[i]? = some (.box (ρ.t 72) [a, .osl true 1 (byteRows s) t])) (ht : H[t]? = some (.tok s.length 1 (ρ.t 5))) (hlen : s.length ≤ 4611686018427387904) :
    ACall P (ρ.f 169) [.ptr i 0] H (fun r H' => r = .d (.str s) ∧ H' = H) := by
  intro κ w vs hr hl hv
  match vs, hl with
  | [v], _ =>
  have hv0 := hv 0 v _ rfl rfl
  cases hv0 with
  | ptr _ _ b hb =>
  obtain ⟨b', hb', hsh, hc⟩ := hr.ob i _ hi
  have hbb : b' = b := by rw [hb] at hb'; cases hb'; rfl
  subst hbb
  obtain ⟨u, hu1, hu2, hu3⟩ := hc 1 _ rfl
  have hrl : (byteRows s).length = s.length := by simp [byteRows]
  cases hu3 with
  | osl hd hf =>
  have hstr : ∀ κ' : K, VR κ' (.string ⟨s.toArray⟩) (.d (.str s)) := fun κ' => by
    have := DR.str (σ := κ'.σ) ⟨s.toArray⟩
    exact .d (by simpa using this)
  by_cases h0 : s = []
  · subst h0
    have hu : u = .slice none 0 0 := by
      rcases hd.sl_inv with ⟨h1, -⟩ | ⟨_, _, _, h1, -⟩ | ⟨_, _, _, _, _, h1, -⟩
      · exact h1
      · cases h1
      · exact absurd rfl (h1 rfl)
    subst hu
    refine (Builder_String_nil' L X b' w hu1).mono fun e w' ⟨he, hw⟩ => ?_
    subst hw
    exact ⟨_, κ, _, H, he, K.le_refl κ, hr.drew, hstr κ, rfl, rfl⟩
  · rcases hr.ob t _ ht with ⟨-, h1⟩ | ⟨g, e, c, cur, lo, hi', h1, h2, h3, h4⟩
    · exact absurd (List.eq_nil_of_length_eq_zero h1) h0
    rw [h1, hrl] at hf
    obtain ⟨-, hf⟩ := hf
    obtain ⟨o, cap, hu, hcap, he, hcc, ho⟩ := hf rfl
    subst ho; subst hu
    obtain ⟨-, f, -, -, -, hcs, hds⟩ := hd.sl_at
    refine (Builder_String_row L X b' g cap cur.size s w h0 hu1 hcap (by omega) (by simp [World.shape?, h2]) (by omega) (fun j x hx => ?_)).mono fun e' w' ⟨he', hw⟩ => ?_
    · have hrow : (byteRows s)[j]? = some [.int .u8 x.toNat] := by simp [byteRows, hx]
      have h5 := hcs j 0 _ _ hrow rfl
      have h6 := hds j 0 _ _ hrow rfl
      have h7 := hr.st _ _ _ h5
      cases h7' : f j 0 <;> rw [h7'] at h6 <;> cases h6
      rw [h7'] at h7
      simpa using h7
    · subst hw
      refine ⟨_, κ, _, H, he', K.le_refl κ, ?_, hstr κ, rfl, rfl⟩
      exact hr.drew.freeze ht h1 (by omega) rfl rfl


end

end Go.Zam

namespace Go.Zam

end Go.Zam

namespace Go.Zam

/-- the cells of an array, as they are now -/
def frzSt (σ : St) (b : Nat) (w : World) (n : Nat) : St := fun b' o => if b' = b then (if o < n then w.cell? ⟨b, o, none⟩ else none) else σ b' o

/-- an array that is written no more: its rows are stable -/
theorem HR.freezeArr {κ : K} {H : Hp} {w : World} (h : HR κ H w) {i sz : Nat} {rows : List (List D)} (hi : H[i]? = some (.arr sz (rows.map (List.map .d)))) {v : Value} (hv : VR κ v (.msl i 0 rows.length)) :
    ∃ κ', κ.le κ' ∧ HR κ' (H.set i .dead) w ∧ VR κ' v (.d (.sl false sz rows)) := by
  have hil : i < H.length := (List.getElem?_eq_some_iff.1 hi).1
  cases hv with
  | msl _ _ _ b sz' o cap hb hl ho hz =>
  obtain ⟨b', s', hb', -, hc⟩ := h.ob i _ hi
  obtain ⟨rfl, rfl⟩ : b' = b ∧ sz = sz' := by rcases hb with ⟨_, hb⟩ | hb <;> rw [hb] at hb' <;> cases hb'; exact ⟨rfl, rfl⟩
  have hex := h.ex i b' (by rw [hb']; rfl)
  have hσ : ∀ o, κ.σ b' o = none := fun o => h.exσ i b' o (by rw [hb']; rfl)
  let κ' : K := { κ with σ := frzSt κ.σ b' w (rows.length * sz), β := upd κ.β i .deadT }
  have hle : κ.le κ' := ⟨rfl, fun b2 o2 u hu => by
    show frzSt κ.σ b' w _ b2 o2 = some u
    by_cases hbb : b2 = b'
    · subst hbb; rw [hσ] at hu; cases hu
    · simp only [frzSt, hbb, if_false]; exact hu, fun j => by
    show (κ.β j).le (upd κ.β i _ j)
    by_cases hj : j = i
    · subst hj; rw [upd_same, hb']; exact .inr rfl
    · rw [upd_ne _ _ hj]; exact Bind.le_refl _⟩
  refine ⟨κ', hle, ⟨h.below, fun b2 o2 u hu => ?_, fun j x hj => ?_, fun j hj => ?_, fun j b2 hb2 => ?_, fun j b2 o2 ho2 => ?_, fun j k b2 hj hk => ?_, fun j x hj => ?_⟩, .d ?_⟩
  · have hu' : frzSt κ.σ b' w (rows.length * sz) b2 o2 = some u := hu
    simp only [frzSt] at hu'
    split at hu'
    · rename_i e; subst e
      split at hu'
      · exact hu'
      · cases hu'
    · exact h.st b2 o2 u hu'
  · by_cases hji : i = j
    · subst hji
      rw [List.getElem?_set_self hil] at hj
      cases hj; trivial
    · rw [List.getElem?_set_ne hji] at hj
      exact (h.ob j x hj).mono hle (upd_ne _ _ (Ne.symm hji)) fun b _ => rfl
  · have : H.length ≤ j := by simpa using hj
    show upd κ.β i _ j = _
    rw [upd_ne _ _ (by omega)]; exact h.dom j this
  · by_cases hji : j = i
    · subst hji
      have : (upd κ.β j Bind.deadT j).block = some b2 := hb2
      rw [upd_same] at this; cases this
    · have : (upd κ.β i Bind.deadT j).block = some b2 := hb2
      rw [upd_ne _ _ hji] at this
      exact h.ex j b2 this
  · by_cases hji : j = i
    · subst hji
      have : (upd κ.β j Bind.deadT j).owns b2 o2 := ho2
      rw [upd_same] at this; exact this.elim
    · have h1 : (upd κ.β i Bind.deadT j).owns b2 o2 := ho2
      rw [upd_ne _ _ hji] at h1
      show frzSt κ.σ b' w _ b2 o2 = none
      have hne : b2 ≠ b' := fun e => by
        subst e
        exact hji (h.exd j i b2 (Bind.block_of_owns h1) (by rw [hb']; rfl))
      simp only [frzSt, hne, if_false]
      exact h.exσ j b2 o2 h1
  · by_cases hji : j = i
    · subst hji
      have : (upd κ.β j Bind.deadT j).block = some b2 := hj
      rw [upd_same] at this; cases this
    · by_cases hki : k = i
      · subst hki
        have : (upd κ.β k Bind.deadT k).block = some b2 := hk
        rw [upd_same] at this; cases this
      · have h1 : (upd κ.β i Bind.deadT j).block = some b2 := hj
        have h2 : (upd κ.β i Bind.deadT k).block = some b2 := hk
        rw [upd_ne _ _ hji] at h1
        rw [upd_ne _ _ hki] at h2
        exact h.exd j k b2 h1 h2
  · by_cases hji : i = j
    · subst hji
      rw [List.getElem?_set_self hil] at hj
      cases hj; rfl
    · rw [List.getElem?_set_ne hji] at hj
      exact h.fl j x hj
  · by_cases h0 : rows.length = 0
    · have : rows = [] := List.eq_nil_of_length_eq_zero h0
      subst this
      exact .emp sz ⟨b', o, none⟩ cap
    · have ho' := ho (by omega)
      rw [Nat.zero_mul] at ho'
      subst ho'
      have hcell : ∀ (k j : Nat) (r : List D) (x : D), rows[k]? = some r → r[j]? = some x → ∃ u, w.cell? ⟨b', k * sz + j, none⟩ = some u ∧ VR κ u (.d x) ∧ k * sz + j < rows.length * sz := fun k j r x hk hx => by
        have hk' : (rows.map (List.map A.d))[k]? = some (r.map .d) := by simp [hk]
        obtain ⟨h1, h2⟩ := hc k _ hk'
        obtain ⟨u, u1, -, u2⟩ := h2 j (.d x) (by simp [hx])
        refine ⟨u, u1, u2, ?_⟩
        have hj : j < sz := by rw [← h1]; simpa using (List.getElem?_eq_some_iff.1 hx).1
        have hkl : k < rows.length := (List.getElem?_eq_some_iff.1 hk).1
        have : (k + 1) * sz ≤ rows.length * sz := Nat.mul_le_mul_right _ (by omega)
        rw [Nat.add_mul] at this; omega
      refine DR.sl false sz rows b' 0 cap (fun k j => (w.cell? ⟨b', k * sz + j, none⟩).getD (.tuple #[])) (fun h => by cases h) hl (fun k r hk => ?_) (fun k j r x hk hx => ?_) (fun k j r x hk hx => ?_)
      · have hk' : (rows.map (List.map A.d))[k]? = some (r.map .d) := by simp [hk]
        simpa using (hc k _ hk').1
      · obtain ⟨u, u1, -, u3⟩ := hcell k j r x hk hx
        show frzSt κ.σ b' w (rows.length * sz) b' (0 + k * sz + j) = _
        rw [Nat.zero_add]
        simp only [frzSt, if_true, u3, u1, Option.getD_some]
      · obtain ⟨u, u1, u2, -⟩ := hcell k j r x hk hx
        simp only [u1, Option.getD_some]
        exact u2.d_inv.mono hle.σ

/-- a call that yields an array that it made: it may as well be a plain slice -/
theorem ACall.freeze {P : Program} {f : FuncId} {args : List A} {H X : Hp} {k sz : Nat} {rows : List (List D)} (hX : X[k]? = some (.arr sz (rows.map (List.map .d)))) (h : ACall P f args H (fun r H' => r = .msl (H.length + k) 0 rows.length ∧ H' = H ++ X)) :
    ACall P f args H (fun r H' => r = .d (.sl false sz rows) ∧ H' = H) := by
  intro κ w vs hr hl hv
  refine (h κ w vs hr hl hv).mono ?_
  rintro e w' ⟨v, κ', x, H', h1, h2, h3, h4, rfl, rfl⟩
  obtain ⟨κ2, k1, k2, k3⟩ := h3.freezeArr (i := H.length + k) (sz := sz) (rows := rows) (by rw [getElem?_appk]; exact hX) h4
  rw [set_appk] at k2
  exact ⟨v, κ2.cut H.length, .d _, Hp.cut H.length (H ++ X.set k .dead), h1, K.le_cut (h2.trans k1) hr.dom, k2.cut _ (by simp), VR.clr H.length k3, rfl, cut_app hr.closed _⟩

/-- what a function made may stay -/
theorem acall_fink {P : Program} {f : FuncId} {fn : Func} {tok : List Nat} {ifn : IFn} {args : List A} {H : Hp} {K : A → Hp → Prop} (k : Nat) (hf : P.funcs[f]? = some fn) (hc : compF P tok fn = some ifn) (hn : args.length ≤ ifn.nt)
    (h : H.Closed → (∀ a ∈ args, a.flat0 = true → a.lo H.length = true) → AWp P H.length ifn.body (Fin ifn.res (H.length + k) K) (Fr.init args) H) : ACall P f args H K :=
  acall_of hf hc hn fun h1 h2 => AWp.mono _ (fun e fr H' h => by
    have hx : RetK K .mk (H.length + k) (resA fr H' ifn.res) H' := by cases e <;> first | exact h | exact h.elim
    unfold RetK at hx
    split at hx
    · rename_i x e1
      cases e with
      | exit => exact h.elim
      | normal => exact ⟨x, H.length + k, e1, by omega, hx.1, hx.2⟩
      | ret => exact ⟨x, H.length + k, e1, by omega, hx.1, hx.2⟩
    · exact hx.elim) _ _ (h h1 h2)

end Go.Zam

namespace Go.Zam

/-- a comparison by which one may sort -/
structure Cmp {α : Type} (c : α → α → Int) : Prop where
  refl : ∀ x, c x x = 0
  anti : ∀ x y, c x y < 0 ↔ 0 < c y x
  trans : ∀ x y z, c x y ≤ 0 → c y z ≤ 0 → c x z ≤ 0

namespace Cmp
variable {α : Type} {c : α → α → Int}

theorem le_total (h : Cmp c) (x y : α) : c x y ≤ 0 ∨ c y x ≤ 0 := by
  have := h.anti y x
  omega

theorem eq_symm (h : Cmp c) {x y : α} (e : c x y = 0) : c y x = 0 := by
  have h1 := h.anti x y
  have h2 := h.anti y x
  omega

theorem not_lt (h : Cmp c) {x y : α} : ¬ c x y < 0 ↔ c y x ≤ 0 := by
  have := h.anti x y
  omega

theorem le_antisymm (h : Cmp c) {x y : α} (e : c x y ≤ 0) (f : c y x ≤ 0) : c x y = 0 := by
  have h1 := h.anti x y
  have h2 := h.anti y x
  omega

theorem lt_le (h : Cmp c) {x y z : α} (e : c x y < 0) (f : c y z ≤ 0) : c x z < 0 := by
  have h1 := (h.anti x y).1 e
  have h2 := h.anti x z
  have h3 := h.trans y z x f
  omega

theorem le_lt (h : Cmp c) {x y z : α} (e : c x y ≤ 0) (f : c y z < 0) : c x z < 0 := by
  have h1 := (h.anti y z).1 f
  have h2 := h.anti x z
  have h3 := h.trans z x y
  omega

end Cmp

section
variable {α : Type} (c : α → α → Int)

def Sorted (l : List α) : Prop := l.Pairwise fun x y => c x y ≤ 0

/-- what is alike, in its order -/
def cls (x : α) (l : List α) : List α := l.filter fun y => decide (c x y = 0)

def Alk (l l' : List α) : Prop := ∀ x, cls c x l = cls c x l'

def insL (x : α) : List α → List α
  | [] => [x]
  | y :: r => if c x y ≤ 0 then x :: y :: r else y :: insL x r

def ssort : List α → List α
  | [] => []
  | x :: r => insL c x (ssort r)
end

section
variable {α : Type} {c : α → α → Int}

theorem Alk.refl (l : List α) : Alk c l l := fun _ => rfl
theorem Alk.symm {l l' : List α} (h : Alk c l l') : Alk c l' l := fun x => (h x).symm
theorem Alk.trans {l l' l'' : List α} (h : Alk c l l') (k : Alk c l' l'') : Alk c l l'' := fun x => (h x).trans (k x)
theorem Alk.append {a a' b b' : List α} (h : Alk c a a') (k : Alk c b b') : Alk c (a ++ b) (a' ++ b') := fun x => by
  simp only [cls, List.filter_append]
  have h1 := h x; have h2 := k x
  simp only [cls] at h1 h2
  rw [h1, h2]
theorem Alk.mid {p a a' q : List α} (h : Alk c a a') : Alk c (p ++ (a ++ q)) (p ++ (a' ++ q)) := (Alk.refl p).append (h.append (Alk.refl q))

theorem cls_nil_of (h : Cmp c) {x : α} {l : List α} (hl : ∀ y ∈ l, c x y < 0 ∨ c y x < 0) : cls c x l = [] := by
  rw [cls, List.filter_eq_nil_iff]
  intro y hy
  simp only [decide_eq_true_eq]
  rcases hl y hy with h1 | h1
  · omega
  · have := (h.anti y x).1 h1; omega

/-- what is greater may change places with what is less -/
theorem Alk.swap (h : Cmp c) {a b : List α} (hab : ∀ x ∈ a, ∀ y ∈ b, c y x < 0) : Alk c (a ++ b) (b ++ a) := fun z => by
  simp only [cls, List.filter_append]
  by_cases ha : ∃ x ∈ a, c z x = 0
  · obtain ⟨x, hx, hzx⟩ := ha
    have : cls c z b = [] := cls_nil_of h fun y hy => .inr (h.lt_le (hab x hx y hy) (by rw [h.eq_symm hzx]; exact Int.le_refl 0))
    simp only [cls] at this
    rw [this]; simp
  · have : cls c z a = [] := by
      rw [cls, List.filter_eq_nil_iff]
      intro y hy; simp only [decide_eq_true_eq]; exact fun e => ha ⟨y, hy, e⟩
    simp only [cls] at this
    rw [this]; simp

theorem Alk.length (h : Cmp c) : ∀ {l l' : List α}, Alk c l l' → l.Perm l'
  | [], l', e => by
    cases l' with
    | nil => exact .nil
    | cons y r =>
      have := e y
      simp [cls, h.refl] at this
  | x :: r, l', e => by
    have hx := e x
    have hx1 : cls c x (x :: r) = x :: cls c x r := by simp [cls, h.refl]
    rw [hx1] at hx
    have hm : x ∈ l' := by
      have : x ∈ cls c x l' := by rw [← hx]; simp
      exact (List.mem_filter.1 this).1
    -- the first of l' that is alike
    obtain ⟨p, y, q, hpq, hp, hy⟩ : ∃ p y q, l' = p ++ y :: q ∧ (∀ z ∈ p, ¬ c x z = 0) ∧ c x y = 0 := by
      clear hx hx1 e
      induction l' with
      | nil => cases hm
      | cons y l' ih =>
        by_cases hy : c x y = 0
        · exact ⟨[], y, l', rfl, by simp, hy⟩
        · have hm' : x ∈ l' := by
            rcases List.mem_cons.1 hm with h1 | h1
            · subst h1; exact absurd (h.refl x) hy
            · exact h1
          obtain ⟨p, z, q, h1, h2, h3⟩ := ih hm'
          exact ⟨y :: p, z, q, by rw [h1]; rfl, fun w hw => by
            rcases List.mem_cons.1 hw with h4 | h4
            · subst h4; exact hy
            · exact h2 w h4, h3⟩
    have hpn : cls c x p = [] := by
      rw [cls, List.filter_eq_nil_iff]; intro z hz; simpa using hp z hz
    have hy1 : cls c x l' = y :: cls c x q := by
      rw [hpq, cls, List.filter_append]
      have : cls c x p = [] := hpn
      rw [cls] at this
      rw [this]; simp [hy, cls]
    rw [hy1] at hx
    obtain ⟨rfl, hxq⟩ := List.cons.inj hx
    have hr : Alk c r (p ++ q) := fun z => by
      have h1 := e z
      rw [hpq] at h1
      by_cases hz : c z x = 0
      · have hpz : cls c z p = [] := by
          rw [cls, List.filter_eq_nil_iff]; intro w hw
          simp only [decide_eq_true_eq]
          intro hzw
          refine hp w hw (h.le_antisymm (h.trans x z w ?_ ?_) (h.trans w z x ?_ ?_))
          · rw [h.eq_symm hz]; exact Int.le_refl 0
          · omega
          · rw [h.eq_symm hzw]; exact Int.le_refl 0
          · omega
        simp only [cls, List.filter_append] at h1 hpz ⊢
        rw [hpz] at h1 ⊢
        simpa [hz] using h1
      · simp only [cls, List.filter_append] at h1 ⊢
        simpa [hz] using h1
    have := Alk.length h hr
    rw [hpq]
    exact (List.Perm.cons x this).trans (List.perm_middle.symm)
termination_by l => l.length

theorem Alk.mem (h : Cmp c) {l l' : List α} (e : Alk c l l') {x : α} : x ∈ l ↔ x ∈ l' := (Alk.length h e).mem_iff

theorem Sorted.cons {x : α} {l : List α} : Sorted c (x :: l) ↔ (∀ y ∈ l, c x y ≤ 0) ∧ Sorted c l := List.pairwise_cons

theorem Sorted.append {a b : List α} : Sorted c (a ++ b) ↔ Sorted c a ∧ Sorted c b ∧ ∀ x ∈ a, ∀ y ∈ b, c x y ≤ 0 := List.pairwise_append

theorem sorted_uniq (h : Cmp c) : ∀ {l l' : List α}, Sorted c l → Sorted c l' → Alk c l l' → l = l'
  | [], l', _, _, e => (List.nil_perm.1 (Alk.length h e)).symm
  | x :: r, [], _, _, e => by have := (Alk.length h e).length_eq; simp at this
  | x :: r, y :: r', s, s', e => by
    rw [Sorted.cons] at s s'
    have hxy : c x y ≤ 0 := by
      have : y ∈ x :: r := (Alk.mem h e).2 (by simp)
      rcases List.mem_cons.1 this with h1 | h1
      · subst h1; rw [h.refl]; exact Int.le_refl 0
      · exact s.1 y h1
    have hyx : c y x ≤ 0 := by
      have : x ∈ y :: r' := (Alk.mem h e).1 (by simp)
      rcases List.mem_cons.1 this with h1 | h1
      · subst h1; rw [h.refl]; exact Int.le_refl 0
      · exact s'.1 x h1
    have h0 := h.le_antisymm hxy hyx
    have hx := e x
    simp [cls, h.refl, h0] at hx
    obtain ⟨rfl, -⟩ := hx
    congr 1
    refine sorted_uniq h s.2 s'.2 fun z => ?_
    have hz := e z
    simp only [cls, List.filter_cons] at hz ⊢
    split at hz
    · exact (List.cons.inj hz).2
    · exact hz

theorem alk_insL (h : Cmp c) (x : α) : ∀ l : List α, Alk c (x :: l) (insL c x l)
  | [] => Alk.refl _
  | y :: r => by
    rw [insL]
    split
    · exact Alk.refl _
    · rename_i hn
      have h1 : Alk c ([x] ++ [y]) ([y] ++ [x]) := Alk.swap h fun a ha b hb => by
        simp only [List.mem_singleton] at ha hb
        subst ha; subst hb
        have := h.anti b a
        omega
      have h2 : Alk c (x :: y :: r) (y :: x :: r) := by simpa using h1.append (Alk.refl r)
      exact h2.trans (by simpa using (Alk.refl [y]).append (alk_insL h x r))

theorem sorted_insL (h : Cmp c) (x : α) : ∀ {l : List α}, Sorted c l → Sorted c (insL c x l)
  | [], _ => by simp [insL, Sorted]
  | y :: r, s => by
    rw [Sorted.cons] at s
    rw [insL]
    split
    · rename_i hxy
      rw [Sorted.cons]
      refine ⟨fun z hz => ?_, Sorted.cons.2 s⟩
      rcases List.mem_cons.1 hz with h1 | h1
      · subst h1; exact hxy
      · exact h.trans _ _ _ hxy (s.1 z h1)
    · rename_i hn
      rw [Sorted.cons]
      refine ⟨fun z hz => ?_, sorted_insL h x s.2⟩
      have := (Alk.mem h (alk_insL h x r)).2 hz
      rcases List.mem_cons.1 this with h1 | h1
      · subst h1; have := h.le_total z y; omega
      · exact s.1 z h1

theorem ssort_spec (h : Cmp c) : ∀ l : List α, Sorted c (ssort c l) ∧ Alk c l (ssort c l)
  | [] => ⟨List.Pairwise.nil, Alk.refl _⟩
  | x :: r => by
    obtain ⟨h1, h2⟩ := ssort_spec h r
    refine ⟨sorted_insL h x h1, Alk.trans ?_ (alk_insL h x _)⟩
    simpa using (Alk.refl [x]).append h2

theorem ssort_uniq (h : Cmp c) {l l' : List α} (s : Sorted c l') (e : Alk c l l') : l' = ssort c l :=
  sorted_uniq h s (ssort_spec h l).1 (e.symm.trans (ssort_spec h l).2)

theorem ssort_alk (h : Cmp c) {l l' : List α} (e : Alk c l l') : ssort c l' = ssort c l :=
  ssort_uniq h (ssort_spec h l').1 (e.trans (ssort_spec h l').2)

theorem ssort_length (h : Cmp c) (l : List α) : (ssort c l).length = l.length := ((ssort_spec h l).2.length h).length_eq.symm

theorem ssort_sorted (h : Cmp c) {l : List α} (s : Sorted c l) : ssort c l = l := (ssort_uniq h s (Alk.refl l)).symm

theorem ssort_perm (h : Cmp c) (l : List α) : l.Perm (ssort c l) := (ssort_spec h l).2.length h

/-- one more behind: it goes ahead of those that are greater -/
theorem ssort_snoc (h : Cmp c) {a b : List α} {x : α} (s : Sorted c (a ++ b)) (ha : ∀ y ∈ a, c y x ≤ 0) (hb : ∀ y ∈ b, c x y < 0) : ssort c ((a ++ b) ++ [x]) = a ++ x :: b := by
  refine (ssort_uniq h ?_ ?_).symm
  · rw [Sorted.append] at s ⊢
    refine ⟨s.1, Sorted.cons.2 ⟨fun y hy => by have := hb y hy; omega, s.2.1⟩, fun y hy z hz => ?_⟩
    rcases List.mem_cons.1 hz with h1 | h1
    · subst h1; exact ha y hy
    · exact s.2.2 y hy z h1
  · have h1 : Alk c (b ++ [x]) ([x] ++ b) := Alk.swap h fun y hy z hz => by
      simp only [List.mem_singleton] at hz; subst hz; exact hb y hy
    simpa using (Alk.refl a).append h1

/-- one more ahead: it goes behind those that are less -/
theorem ssort_cons (h : Cmp c) {a b : List α} {x : α} (s : Sorted c (a ++ b)) (ha : ∀ y ∈ a, c y x < 0) (hb : ∀ y ∈ b, c x y ≤ 0) : ssort c (x :: (a ++ b)) = a ++ x :: b := by
  refine (ssort_uniq h ?_ ?_).symm
  · rw [Sorted.append] at s ⊢
    refine ⟨s.1, Sorted.cons.2 ⟨hb, s.2.1⟩, fun y hy z hz => ?_⟩
    rcases List.mem_cons.1 hz with h1 | h1
    · subst h1; have := ha y hy; omega
    · exact s.2.2 y hy z h1
  · have h1 : Alk c ([x] ++ a) (a ++ [x]) := Alk.swap h fun y hy z hz => by
      simp only [List.mem_singleton] at hy; subst hy; exact ha z hz
    simpa using h1.append (Alk.refl b)

/-- the merge of two sorted rows, by halves -/
theorem ssort_halves (h : Cmp c) {a1 a2 b1 b2 : List α} (sa : Sorted c (a1 ++ a2)) (sb : Sorted c (b1 ++ b2)) (h1 : ∀ x ∈ a2, ∀ y ∈ b1, c y x < 0)
    (h2 : ∀ x ∈ a1, ∀ y ∈ b2, c x y ≤ 0) :
    ssort c ((a1 ++ a2) ++ (b1 ++ b2)) = ssort c (a1 ++ b1) ++ ssort c (a2 ++ b2) := by
  rw [Sorted.append] at sa sb
  obtain ⟨l1, l2⟩ := ssort_spec h (a1 ++ b1)
  obtain ⟨r1, r2⟩ := ssort_spec h (a2 ++ b2)
  refine (ssort_uniq h (Sorted.append.2 ⟨l1, r1, fun x hx y hy => ?_⟩) ?_).symm
  · have hx' := (Alk.mem h l2).2 hx
    have hy' := (Alk.mem h r2).2 hy
    rcases List.mem_append.1 hx' with u | u <;> rcases List.mem_append.1 hy' with v | v
    · exact sa.2.2 x u y v
    · exact h2 x u y v
    · have := h1 y v x u; omega
    · exact sb.2.2 x u y v
  · have e1 : Alk c (a1 ++ ((a2 ++ b1) ++ b2)) (a1 ++ ((b1 ++ a2) ++ b2)) := Alk.mid (Alk.swap h h1)
    have e2 := l2.append r2
    simp only [List.append_assoc] at e1 e2 ⊢
    exact e1.trans e2

end
end Go.Zam

namespace Go.Zam

def irSwapRange (sz : Nat) : IFn :=
 { nt := 38, res := [], body := (
  .seq (.ops [
    ⟨(some 10), none, .mv (.c (.int .i64 0))⟩] false)
  (.blk 0 (.loop (.seq (.seq (.ops [
       ⟨(some 11), none, .mv (.t 10)⟩,
       ⟨(some 12), none, .mv (.t 3)⟩,
       ⟨(some 13), none, .bin .lss (.t 11) (.t 12)⟩] false)
     (.cond (.t 13) (.skip)
     (.exit 0)))
    (.seq (.blk 1 (.ops [
       ⟨(some 16), none, .mv (.t 0)⟩,
       ⟨(some 17), none, .mv (.t 1)⟩,
       ⟨(some 18), none, .mv (.t 10)⟩,
       ⟨(some 19), none, .bin .add (.t 17) (.t 18)⟩,
       ⟨(some 20), none, .mv (.t 0)⟩,
       ⟨(some 21), none, .mv (.t 2)⟩,
       ⟨(some 22), none, .mv (.t 10)⟩,
       ⟨(some 23), none, .bin .add (.t 21) (.t 22)⟩,
       ⟨(some 24), none, .mv (.t 0)⟩,
       ⟨(some 25), none, .mv (.t 2)⟩,
       ⟨(some 26), none, .mv (.t 10)⟩,
       ⟨(some 27), none, .bin .add (.t 25) (.t 26)⟩,
       ⟨(some 28), none, .iaddr sz (.t 24) (.t 27)⟩,
       ⟨(some 29), none, .load sz true (.t 28)⟩,
       ⟨(some 30), none, .mv (.t 0)⟩,
       ⟨(some 31), none, .mv (.t 1)⟩,
       ⟨(some 32), none, .mv (.t 10)⟩,
       ⟨(some 33), none, .bin .add (.t 31) (.t 32)⟩,
       ⟨(some 34), none, .iaddr sz (.t 30) (.t 33)⟩,
       ⟨(some 35), none, .load sz true (.t 34)⟩,
       ⟨(some 36), none, .iaddr sz (.t 16) (.t 19)⟩,
       ⟨none, none, .store sz (.t 36) (.t 29)⟩,
       ⟨(some 37), none, .iaddr sz (.t 20) (.t 23)⟩,
       ⟨none, none, .store sz (.t 37) (.t 35)⟩] true))
    (.ops [
     ⟨(some 14), none, .mv (.t 10)⟩,
     ⟨(some 15), none, .bin .add (.t 14) (.c (.int .i64 1))⟩,
     ⟨(some 10), none, .mv (.t 15)⟩] false)))))) }

def irRotate (swp : Nat) : IFn :=
 { nt := 58, res := [], body := (
  .seq (.ops [
    ⟨(some 12), none, .mv (.t 2)⟩,
    ⟨(some 13), none, .mv (.t 1)⟩,
    ⟨(some 14), none, .bin .sub (.t 12) (.t 13)⟩,
    ⟨(some 10), none, .mv (.t 14)⟩] false)
  (.seq (.ops [
    ⟨(some 15), none, .mv (.t 3)⟩,
    ⟨(some 16), none, .mv (.t 2)⟩,
    ⟨(some 17), none, .bin .sub (.t 15) (.t 16)⟩,
    ⟨(some 11), none, .mv (.t 17)⟩] false)
  (.seq (.blk 0 (.loop (.seq (.seq (.ops [
        ⟨(some 18), none, .mv (.t 10)⟩,
        ⟨(some 19), none, .mv (.t 11)⟩,
        ⟨(some 20), none, .bin .neq (.t 18) (.t 19)⟩] false)
      (.cond (.t 20) (.skip)
      (.exit 0)))
     (.blk 1 (.seq (.ops [
        ⟨(some 21), none, .mv (.t 10)⟩,
        ⟨(some 22), none, .mv (.t 11)⟩,
        ⟨(some 23), none, .bin .gtr (.t 21) (.t 22)⟩] false)
      (.cond (.t 23) (.seq (.ops [
         ⟨(some 24), none, .mv (.t 0)⟩,
         ⟨(some 25), none, .mv (.t 2)⟩,
         ⟨(some 26), none, .mv (.t 10)⟩,
         ⟨(some 27), none, .bin .sub (.t 25) (.t 26)⟩,
         ⟨(some 28), none, .mv (.t 2)⟩,
         ⟨(some 29), none, .mv (.t 11)⟩,
         ⟨(some 30), none, .mv (.t 4)⟩,
         ⟨(some 31), none, .call swp [(.t 24), (.t 27), (.t 28), (.t 29), (.t 30)]⟩] false)
       (.ops [
        ⟨(some 32), none, .mv (.t 10)⟩,
        ⟨(some 33), none, .mv (.t 11)⟩,
        ⟨(some 34), none, .bin .sub (.t 32) (.t 33)⟩,
        ⟨(some 10), none, .mv (.t 34)⟩] false))
      (.seq (.ops [
         ⟨(some 35), none, .mv (.t 0)⟩,
         ⟨(some 36), none, .mv (.t 2)⟩,
         ⟨(some 37), none, .mv (.t 10)⟩,
         ⟨(some 38), none, .bin .sub (.t 36) (.t 37)⟩,
         ⟨(some 39), none, .mv (.t 2)⟩,
         ⟨(some 40), none, .mv (.t 11)⟩,
         ⟨(some 41), none, .bin .add (.t 39) (.t 40)⟩,
         ⟨(some 42), none, .mv (.t 10)⟩,
         ⟨(some 43), none, .bin .sub (.t 41) (.t 42)⟩,
         ⟨(some 44), none, .mv (.t 10)⟩,
         ⟨(some 45), none, .mv (.t 4)⟩,
         ⟨(some 46), none, .call swp [(.t 35), (.t 38), (.t 43), (.t 44), (.t 45)]⟩] false)
       (.ops [
        ⟨(some 47), none, .mv (.t 11)⟩,
        ⟨(some 48), none, .mv (.t 10)⟩,
        ⟨(some 49), none, .bin .sub (.t 47) (.t 48)⟩,
        ⟨(some 11), none, .mv (.t 49)⟩] false))))))))
  (.ops [
   ⟨(some 50), none, .mv (.t 0)⟩,
   ⟨(some 51), none, .mv (.t 2)⟩,
   ⟨(some 52), none, .mv (.t 10)⟩,
   ⟨(some 53), none, .bin .sub (.t 51) (.t 52)⟩,
   ⟨(some 54), none, .mv (.t 2)⟩,
   ⟨(some 55), none, .mv (.t 10)⟩,
   ⟨(some 56), none, .mv (.t 4)⟩,
   ⟨(some 57), none, .call swp [(.t 50), (.t 53), (.t 54), (.t 55), (.t 56)]⟩] false)))) }

def symEnd (rot sym : Nat) : C :=
 (.seq (.ops [
    ⟨(some 175), none, .mv (.t 19)⟩,
    ⟨(some 176), none, .mv (.t 20)⟩,
    ⟨(some 177), none, .bin .sub (.t 175) (.t 176)⟩,
    ⟨(some 24), none, .mv (.t 177)⟩] false)
  (.seq (.seq (.ops [
     ⟨(some 178), none, .mv (.t 20)⟩,
     ⟨(some 179), none, .mv (.t 2)⟩,
     ⟨(some 180), none, .bin .lss (.t 178) (.t 179)⟩,
     ⟨(some 181), none, .mv (.t 180)⟩,
     ⟨(some 182), (some (181, true)), .mv (.t 2)⟩,
     ⟨(some 183), (some (181, true)), .mv (.t 24)⟩,
     ⟨(some 184), (some (181, true)), .bin .lss (.t 182) (.t 183)⟩,
     ⟨(some 185), none, .pick (.t 181) (.t 184) (.c (.bool false))⟩] false)
   (.cond (.t 185) (.ops [
     ⟨(some 186), none, .mv (.t 0)⟩,
     ⟨(some 187), none, .mv (.t 20)⟩,
     ⟨(some 188), none, .mv (.t 2)⟩,
     ⟨(some 189), none, .mv (.t 24)⟩,
     ⟨(some 190), none, .mv (.t 4)⟩,
     ⟨(some 191), none, .call rot [(.t 186), (.t 187), (.t 188), (.t 189), (.t 190)]⟩] false)
   (.skip)))
  (.seq (.seq (.ops [
     ⟨(some 192), none, .mv (.t 1)⟩,
     ⟨(some 193), none, .mv (.t 20)⟩,
     ⟨(some 194), none, .bin .lss (.t 192) (.t 193)⟩,
     ⟨(some 195), none, .mv (.t 194)⟩,
     ⟨(some 196), (some (195, true)), .mv (.t 20)⟩,
     ⟨(some 197), (some (195, true)), .mv (.t 18)⟩,
     ⟨(some 198), (some (195, true)), .bin .lss (.t 196) (.t 197)⟩,
     ⟨(some 199), none, .pick (.t 195) (.t 198) (.c (.bool false))⟩] false)
   (.cond (.t 199) (.ops [
     ⟨(some 200), none, .mv (.t 0)⟩,
     ⟨(some 201), none, .mv (.t 1)⟩,
     ⟨(some 202), none, .mv (.t 20)⟩,
     ⟨(some 203), none, .mv (.t 18)⟩,
     ⟨(some 204), none, .mv (.t 4)⟩,
     ⟨(some 205), none, .call sym [(.t 200), (.t 201), (.t 202), (.t 203), (.t 204)]⟩] false)
   (.skip)))
  (.seq (.ops [
    ⟨(some 206), none, .mv (.t 18)⟩,
    ⟨(some 207), none, .mv (.t 24)⟩,
    ⟨(some 208), none, .bin .lss (.t 206) (.t 207)⟩,
    ⟨(some 209), none, .mv (.t 208)⟩,
    ⟨(some 210), (some (209, true)), .mv (.t 24)⟩,
    ⟨(some 211), (some (209, true)), .mv (.t 3)⟩,
    ⟨(some 212), (some (209, true)), .bin .lss (.t 210) (.t 211)⟩,
    ⟨(some 213), none, .pick (.t 209) (.t 212) (.c (.bool false))⟩] false)
  (.cond (.t 213) (.ops [
    ⟨(some 214), none, .mv (.t 0)⟩,
    ⟨(some 215), none, .mv (.t 18)⟩,
    ⟨(some 216), none, .mv (.t 24)⟩,
    ⟨(some 217), none, .mv (.t 3)⟩,
    ⟨(some 218), none, .mv (.t 4)⟩,
    ⟨(some 219), none, .call sym [(.t 214), (.t 215), (.t 216), (.t 217), (.t 218)]⟩] false)
  (.skip))))))

def symLoop (sz rot sym : Nat) : C :=
 (.seq (.blk 8 (.loop (.seq (.seq (.ops [
        ⟨(some 149), none, .mv (.t 20)⟩,
        ⟨(some 150), none, .mv (.t 21)⟩,
        ⟨(some 151), none, .bin .lss (.t 149) (.t 150)⟩] false)
      (.cond (.t 151) (.skip)
      (.exit 8)))
     (.blk 9 (.seq (.ops [
        ⟨(some 152), none, .mv (.t 20)⟩,
        ⟨(some 153), none, .mv (.t 21)⟩,
        ⟨(some 154), none, .bin .add (.t 152) (.t 153)⟩,
        ⟨(some 155), none, .cvt .u64 (.t 154)⟩,
        ⟨(some 156), none, .bin .shr (.t 155) (.c (.int .u64 1))⟩,
        ⟨(some 157), none, .cvt .i64 (.t 156)⟩,
        ⟨(some 23), none, .mv (.t 157)⟩] false)
      (.seq (.ops [
        ⟨(some 158), none, .mv (.t 4)⟩,
        ⟨(some 159), none, .mv (.t 0)⟩,
        ⟨(some 160), none, .mv (.t 22)⟩,
        ⟨(some 161), none, .mv (.t 23)⟩,
        ⟨(some 162), none, .bin .sub (.t 160) (.t 161)⟩,
        ⟨(some 163), none, .iaddr sz (.t 159) (.t 162)⟩,
        ⟨(some 164), none, .load sz true (.t 163)⟩,
        ⟨(some 165), none, .mv (.t 0)⟩,
        ⟨(some 166), none, .mv (.t 23)⟩,
        ⟨(some 167), none, .iaddr sz (.t 165) (.t 166)⟩,
        ⟨(some 168), none, .load sz true (.t 167)⟩,
        ⟨(some 169), none, .callv (.t 158) [(.t 164), (.t 168)]⟩,
        ⟨(some 170), none, .bin .lss (.t 169) (.c (.int .i64 0))⟩,
        ⟨(some 171), none, .un .not (.t 170)⟩] true)
      (.cond (.t 171) (.ops [
        ⟨(some 172), none, .mv (.t 23)⟩,
        ⟨(some 173), none, .bin .add (.t 172) (.c (.int .i64 1))⟩,
        ⟨(some 20), none, .mv (.t 173)⟩] false)
      (.ops [
        ⟨(some 174), none, .mv (.t 23)⟩,
        ⟨(some 21), none, .mv (.t 174)⟩] false))))))))
  (symEnd rot sym))

def symA (sz : Nat) : C :=
 (.seq (.ops [
      ⟨(some 29), none, .mv (.t 2)⟩,
      ⟨(some 10), none, .mv (.t 29)⟩] false)
    (.seq (.ops [
      ⟨(some 30), none, .mv (.t 3)⟩,
      ⟨(some 11), none, .mv (.t 30)⟩] false)
    (.seq (.blk 0 (.loop (.seq (.seq (.ops [
          ⟨(some 31), none, .mv (.t 10)⟩,
          ⟨(some 32), none, .mv (.t 11)⟩,
          ⟨(some 33), none, .bin .lss (.t 31) (.t 32)⟩] false)
        (.cond (.t 33) (.skip)
        (.exit 0)))
       (.blk 1 (.seq (.ops [
          ⟨(some 34), none, .mv (.t 10)⟩,
          ⟨(some 35), none, .mv (.t 11)⟩,
          ⟨(some 36), none, .bin .add (.t 34) (.t 35)⟩,
          ⟨(some 37), none, .cvt .u64 (.t 36)⟩,
          ⟨(some 38), none, .bin .shr (.t 37) (.c (.int .u64 1))⟩,
          ⟨(some 39), none, .cvt .i64 (.t 38)⟩,
          ⟨(some 12), none, .mv (.t 39)⟩] false)
        (.seq (.ops [
          ⟨(some 40), none, .mv (.t 4)⟩,
          ⟨(some 41), none, .mv (.t 0)⟩,
          ⟨(some 42), none, .mv (.t 12)⟩,
          ⟨(some 43), none, .iaddr sz (.t 41) (.t 42)⟩,
          ⟨(some 44), none, .load sz true (.t 43)⟩,
          ⟨(some 45), none, .mv (.t 0)⟩,
          ⟨(some 46), none, .mv (.t 1)⟩,
          ⟨(some 47), none, .iaddr sz (.t 45) (.t 46)⟩,
          ⟨(some 48), none, .load sz true (.t 47)⟩,
          ⟨(some 49), none, .callv (.t 40) [(.t 44), (.t 48)]⟩,
          ⟨(some 50), none, .bin .lss (.t 49) (.c (.int .i64 0))⟩] true)
        (.cond (.t 50) (.ops [
          ⟨(some 51), none, .mv (.t 12)⟩,
          ⟨(some 52), none, .bin .add (.t 51) (.c (.int .i64 1))⟩,
          ⟨(some 10), none, .mv (.t 52)⟩] false)
        (.ops [
          ⟨(some 53), none, .mv (.t 12)⟩,
          ⟨(some 11), none, .mv (.t 53)⟩] false))))))))
    (.seq (.seq (.ops [
       ⟨(some 54), none, .mv (.t 1)⟩,
       ⟨(some 13), none, .mv (.t 54)⟩] false)
     (.blk 2 (.loop (.seq (.seq (.ops [
          ⟨(some 55), none, .mv (.t 13)⟩,
          ⟨(some 56), none, .mv (.t 10)⟩,
          ⟨(some 57), none, .bin .sub (.t 56) (.c (.int .i64 1))⟩,
          ⟨(some 58), none, .bin .lss (.t 55) (.t 57)⟩] false)
        (.cond (.t 58) (.skip)
        (.exit 2)))
       (.seq (.blk 3 (.ops [
          ⟨(some 61), none, .mv (.t 0)⟩,
          ⟨(some 62), none, .mv (.t 13)⟩,
          ⟨(some 63), none, .mv (.t 0)⟩,
          ⟨(some 64), none, .mv (.t 13)⟩,
          ⟨(some 65), none, .bin .add (.t 64) (.c (.int .i64 1))⟩,
          ⟨(some 66), none, .mv (.t 0)⟩,
          ⟨(some 67), none, .mv (.t 13)⟩,
          ⟨(some 68), none, .bin .add (.t 67) (.c (.int .i64 1))⟩,
          ⟨(some 69), none, .iaddr sz (.t 66) (.t 68)⟩,
          ⟨(some 70), none, .load sz true (.t 69)⟩,
          ⟨(some 71), none, .mv (.t 0)⟩,
          ⟨(some 72), none, .mv (.t 13)⟩,
          ⟨(some 73), none, .iaddr sz (.t 71) (.t 72)⟩,
          ⟨(some 74), none, .load sz true (.t 73)⟩,
          ⟨(some 75), none, .iaddr sz (.t 61) (.t 62)⟩,
          ⟨none, none, .store sz (.t 75) (.t 70)⟩,
          ⟨(some 76), none, .iaddr sz (.t 63) (.t 65)⟩,
          ⟨none, none, .store sz (.t 76) (.t 74)⟩] true))
       (.ops [
        ⟨(some 59), none, .mv (.t 13)⟩,
        ⟨(some 60), none, .bin .add (.t 59) (.c (.int .i64 1))⟩,
        ⟨(some 13), none, .mv (.t 60)⟩] false))))))
    (.ret)))))

def symB (sz : Nat) : C :=
 (.seq (.ops [
      ⟨(some 81), none, .mv (.t 1)⟩,
      ⟨(some 14), none, .mv (.t 81)⟩] false)
    (.seq (.ops [
      ⟨(some 82), none, .mv (.t 2)⟩,
      ⟨(some 15), none, .mv (.t 82)⟩] false)
    (.seq (.blk 4 (.loop (.seq (.seq (.ops [
          ⟨(some 83), none, .mv (.t 14)⟩,
          ⟨(some 84), none, .mv (.t 15)⟩,
          ⟨(some 85), none, .bin .lss (.t 83) (.t 84)⟩] false)
        (.cond (.t 85) (.skip)
        (.exit 4)))
       (.blk 5 (.seq (.ops [
          ⟨(some 86), none, .mv (.t 14)⟩,
          ⟨(some 87), none, .mv (.t 15)⟩,
          ⟨(some 88), none, .bin .add (.t 86) (.t 87)⟩,
          ⟨(some 89), none, .cvt .u64 (.t 88)⟩,
          ⟨(some 90), none, .bin .shr (.t 89) (.c (.int .u64 1))⟩,
          ⟨(some 91), none, .cvt .i64 (.t 90)⟩,
          ⟨(some 16), none, .mv (.t 91)⟩] false)
        (.seq (.ops [
          ⟨(some 92), none, .mv (.t 4)⟩,
          ⟨(some 93), none, .mv (.t 0)⟩,
          ⟨(some 94), none, .mv (.t 2)⟩,
          ⟨(some 95), none, .iaddr sz (.t 93) (.t 94)⟩,
          ⟨(some 96), none, .load sz true (.t 95)⟩,
          ⟨(some 97), none, .mv (.t 0)⟩,
          ⟨(some 98), none, .mv (.t 16)⟩,
          ⟨(some 99), none, .iaddr sz (.t 97) (.t 98)⟩,
          ⟨(some 100), none, .load sz true (.t 99)⟩,
          ⟨(some 101), none, .callv (.t 92) [(.t 96), (.t 100)]⟩,
          ⟨(some 102), none, .bin .lss (.t 101) (.c (.int .i64 0))⟩,
          ⟨(some 103), none, .un .not (.t 102)⟩] true)
        (.cond (.t 103) (.ops [
          ⟨(some 104), none, .mv (.t 16)⟩,
          ⟨(some 105), none, .bin .add (.t 104) (.c (.int .i64 1))⟩,
          ⟨(some 14), none, .mv (.t 105)⟩] false)
        (.ops [
          ⟨(some 106), none, .mv (.t 16)⟩,
          ⟨(some 15), none, .mv (.t 106)⟩] false))))))))
    (.seq (.seq (.ops [
       ⟨(some 107), none, .mv (.t 2)⟩,
       ⟨(some 17), none, .mv (.t 107)⟩] false)
     (.blk 6 (.loop (.seq (.seq (.ops [
          ⟨(some 108), none, .mv (.t 17)⟩,
          ⟨(some 109), none, .mv (.t 14)⟩,
          ⟨(some 110), none, .bin .gtr (.t 108) (.t 109)⟩] false)
        (.cond (.t 110) (.skip)
        (.exit 6)))
       (.seq (.blk 7 (.ops [
          ⟨(some 113), none, .mv (.t 0)⟩,
          ⟨(some 114), none, .mv (.t 17)⟩,
          ⟨(some 115), none, .mv (.t 0)⟩,
          ⟨(some 116), none, .mv (.t 17)⟩,
          ⟨(some 117), none, .bin .sub (.t 116) (.c (.int .i64 1))⟩,
          ⟨(some 118), none, .mv (.t 0)⟩,
          ⟨(some 119), none, .mv (.t 17)⟩,
          ⟨(some 120), none, .bin .sub (.t 119) (.c (.int .i64 1))⟩,
          ⟨(some 121), none, .iaddr sz (.t 118) (.t 120)⟩,
          ⟨(some 122), none, .load sz true (.t 121)⟩,
          ⟨(some 123), none, .mv (.t 0)⟩,
          ⟨(some 124), none, .mv (.t 17)⟩,
          ⟨(some 125), none, .iaddr sz (.t 123) (.t 124)⟩,
          ⟨(some 126), none, .load sz true (.t 125)⟩,
          ⟨(some 127), none, .iaddr sz (.t 113) (.t 114)⟩,
          ⟨none, none, .store sz (.t 127) (.t 122)⟩,
          ⟨(some 128), none, .iaddr sz (.t 115) (.t 117)⟩,
          ⟨none, none, .store sz (.t 128) (.t 126)⟩] true))
       (.ops [
        ⟨(some 111), none, .mv (.t 17)⟩,
        ⟨(some 112), none, .bin .sub (.t 111) (.c (.int .i64 1))⟩,
        ⟨(some 17), none, .mv (.t 112)⟩] false))))))
    (.ret)))))

def irSymMerge (sz rot sym : Nat) : IFn :=
 { nt := 220, res := [], body := (
  .seq (.seq (.ops [
     ⟨(some 25), none, .mv (.t 2)⟩,
     ⟨(some 26), none, .mv (.t 1)⟩,
     ⟨(some 27), none, .bin .sub (.t 25) (.t 26)⟩,
     ⟨(some 28), none, .bin .eql (.t 27) (.c (.int .i64 1))⟩] false)
   (.cond (.t 28) (symA sz)
   (.skip)))
  (.seq (.seq (.ops [
     ⟨(some 77), none, .mv (.t 3)⟩,
     ⟨(some 78), none, .mv (.t 2)⟩,
     ⟨(some 79), none, .bin .sub (.t 77) (.t 78)⟩,
     ⟨(some 80), none, .bin .eql (.t 79) (.c (.int .i64 1))⟩] false)
   (.cond (.t 80) (symB sz)
   (.skip)))
  (.seq (.ops [
    ⟨(some 129), none, .mv (.t 1)⟩,
    ⟨(some 130), none, .mv (.t 3)⟩,
    ⟨(some 131), none, .bin .add (.t 129) (.t 130)⟩,
    ⟨(some 132), none, .cvt .u64 (.t 131)⟩,
    ⟨(some 133), none, .bin .shr (.t 132) (.c (.int .u64 1))⟩,
    ⟨(some 134), none, .cvt .i64 (.t 133)⟩,
    ⟨(some 18), none, .mv (.t 134)⟩] false)
  (.seq (.ops [
    ⟨(some 135), none, .mv (.t 18)⟩,
    ⟨(some 136), none, .mv (.t 2)⟩,
    ⟨(some 137), none, .bin .add (.t 135) (.t 136)⟩,
    ⟨(some 19), none, .mv (.t 137)⟩] false)
  (.seq (.ops [
    ⟨(some 20), none, .mv (.c (.int .i64 0))⟩,
    ⟨(some 21), none, .mv (.c (.int .i64 0))⟩] false)
  (.seq (.seq (.ops [
     ⟨(some 138), none, .mv (.t 2)⟩,
     ⟨(some 139), none, .mv (.t 18)⟩,
     ⟨(some 140), none, .bin .gtr (.t 138) (.t 139)⟩] false)
   (.cond (.t 140) (.seq (.ops [
      ⟨(some 141), none, .mv (.t 19)⟩,
      ⟨(some 142), none, .mv (.t 3)⟩,
      ⟨(some 143), none, .bin .sub (.t 141) (.t 142)⟩,
      ⟨(some 20), none, .mv (.t 143)⟩] false)
    (.ops [
     ⟨(some 144), none, .mv (.t 18)⟩,
     ⟨(some 21), none, .mv (.t 144)⟩] false))
   (.seq (.ops [
      ⟨(some 145), none, .mv (.t 1)⟩,
      ⟨(some 20), none, .mv (.t 145)⟩] false)
    (.ops [
     ⟨(some 146), none, .mv (.t 2)⟩,
     ⟨(some 21), none, .mv (.t 146)⟩] false))))
  (.seq (.ops [
    ⟨(some 147), none, .mv (.t 19)⟩,
    ⟨(some 148), none, .bin .sub (.t 147) (.c (.int .i64 1))⟩,
    ⟨(some 22), none, .mv (.t 148)⟩] false)
  (symLoop sz rot sym)))))))) }

def irInsertion (sz : Nat) : IFn :=
 { nt := 53, res := [], body := (
  .seq (.ops [
    ⟨(some 10), none, .mv (.t 1)⟩,
    ⟨(some 11), none, .bin .add (.t 10) (.c (.int .i64 1))⟩,
    ⟨(some 8), none, .mv (.t 11)⟩] false)
  (.blk 0 (.loop (.seq (.seq (.ops [
       ⟨(some 12), none, .mv (.t 8)⟩,
       ⟨(some 13), none, .mv (.t 2)⟩,
       ⟨(some 14), none, .bin .lss (.t 12) (.t 13)⟩] false)
     (.cond (.t 14) (.skip)
     (.exit 0)))
    (.seq (.blk 1 (.seq (.ops [
        ⟨(some 17), none, .mv (.t 8)⟩,
        ⟨(some 9), none, .mv (.t 17)⟩] false)
      (.blk 2 (.loop (.seq (.seq (.ops [
           ⟨(some 18), none, .mv (.t 9)⟩,
           ⟨(some 19), none, .mv (.t 1)⟩,
           ⟨(some 20), none, .bin .gtr (.t 18) (.t 19)⟩,
           ⟨(some 21), none, .mv (.t 20)⟩,
           ⟨(some 22), (some (21, true)), .mv (.t 3)⟩,
           ⟨(some 23), (some (21, true)), .mv (.t 0)⟩,
           ⟨(some 24), (some (21, true)), .mv (.t 9)⟩,
           ⟨(some 25), (some (21, true)), .iaddr sz (.t 23) (.t 24)⟩,
           ⟨(some 26), (some (21, true)), .load sz true (.t 25)⟩,
           ⟨(some 27), (some (21, true)), .mv (.t 0)⟩,
           ⟨(some 28), (some (21, true)), .mv (.t 9)⟩,
           ⟨(some 29), (some (21, true)), .bin .sub (.t 28) (.c (.int .i64 1))⟩,
           ⟨(some 30), (some (21, true)), .iaddr sz (.t 27) (.t 29)⟩,
           ⟨(some 31), (some (21, true)), .load sz true (.t 30)⟩,
           ⟨(some 32), (some (21, true)), .callv (.t 22) [(.t 26), (.t 31)]⟩,
           ⟨(some 33), (some (21, true)), .bin .lss (.t 32) (.c (.int .i64 0))⟩,
           ⟨(some 34), none, .pick (.t 21) (.t 33) (.c (.bool false))⟩] true)
         (.cond (.t 34) (.skip)
         (.exit 2)))
        (.seq (.blk 3 (.ops [
           ⟨(some 37), none, .mv (.t 0)⟩,
           ⟨(some 38), none, .mv (.t 9)⟩,
           ⟨(some 39), none, .mv (.t 0)⟩,
           ⟨(some 40), none, .mv (.t 9)⟩,
           ⟨(some 41), none, .bin .sub (.t 40) (.c (.int .i64 1))⟩,
           ⟨(some 42), none, .mv (.t 0)⟩,
           ⟨(some 43), none, .mv (.t 9)⟩,
           ⟨(some 44), none, .bin .sub (.t 43) (.c (.int .i64 1))⟩,
           ⟨(some 45), none, .iaddr sz (.t 42) (.t 44)⟩,
           ⟨(some 46), none, .load sz true (.t 45)⟩,
           ⟨(some 47), none, .mv (.t 0)⟩,
           ⟨(some 48), none, .mv (.t 9)⟩,
           ⟨(some 49), none, .iaddr sz (.t 47) (.t 48)⟩,
           ⟨(some 50), none, .load sz true (.t 49)⟩,
           ⟨(some 51), none, .iaddr sz (.t 37) (.t 38)⟩,
           ⟨none, none, .store sz (.t 51) (.t 46)⟩,
           ⟨(some 52), none, .iaddr sz (.t 39) (.t 41)⟩,
           ⟨none, none, .store sz (.t 52) (.t 50)⟩] true))
        (.ops [
         ⟨(some 35), none, .mv (.t 9)⟩,
         ⟨(some 36), none, .bin .sub (.t 35) (.c (.int .i64 1))⟩,
         ⟨(some 9), none, .mv (.t 36)⟩] false)))))))
    (.ops [
     ⟨(some 15), none, .mv (.t 8)⟩,
     ⟨(some 16), none, .bin .add (.t 15) (.c (.int .i64 1))⟩,
     ⟨(some 8), none, .mv (.t 16)⟩] false)))))) }

def irStable (ins sym : Nat) : IFn :=
 { nt := 63, res := [], body := (
  .seq (.ops [
    ⟨(some 6), none, .mv (.c (.int .i64 20))⟩] false)
  (.seq (.ops [
    ⟨(some 10), none, .mv (.t 6)⟩,
    ⟨(some 7), none, .mv (.c (.int .i64 0))⟩,
    ⟨(some 8), none, .mv (.t 10)⟩] false)
  (.seq (.blk 0 (.loop (.seq (.seq (.ops [
        ⟨(some 11), none, .mv (.t 8)⟩,
        ⟨(some 12), none, .mv (.t 1)⟩,
        ⟨(some 13), none, .bin .leq (.t 11) (.t 12)⟩] false)
      (.cond (.t 13) (.skip)
      (.exit 0)))
     (.blk 1 (.seq (.ops [
        ⟨(some 14), none, .mv (.t 0)⟩,
        ⟨(some 15), none, .mv (.t 7)⟩,
        ⟨(some 16), none, .mv (.t 8)⟩,
        ⟨(some 17), none, .mv (.t 2)⟩,
        ⟨(some 18), none, .call ins [(.t 14), (.t 15), (.t 16), (.t 17)]⟩] false)
      (.seq (.ops [
        ⟨(some 19), none, .mv (.t 8)⟩,
        ⟨(some 7), none, .mv (.t 19)⟩] false)
      (.ops [
       ⟨(some 20), none, .mv (.t 8)⟩,
       ⟨(some 21), none, .mv (.t 6)⟩,
       ⟨(some 22), none, .bin .add (.t 20) (.t 21)⟩,
       ⟨(some 8), none, .mv (.t 22)⟩] false)))))))
  (.seq (.ops [
    ⟨(some 23), none, .mv (.t 0)⟩,
    ⟨(some 24), none, .mv (.t 7)⟩,
    ⟨(some 25), none, .mv (.t 1)⟩,
    ⟨(some 26), none, .mv (.t 2)⟩,
    ⟨(some 27), none, .call ins [(.t 23), (.t 24), (.t 25), (.t 26)]⟩] false)
  (.blk 2 (.loop (.seq (.seq (.ops [
       ⟨(some 28), none, .mv (.t 6)⟩,
       ⟨(some 29), none, .mv (.t 1)⟩,
       ⟨(some 30), none, .bin .lss (.t 28) (.t 29)⟩] false)
     (.cond (.t 30) (.skip)
     (.exit 2)))
    (.blk 3 (.seq (.ops [
       ⟨(some 31), none, .mv (.t 6)⟩,
       ⟨(some 32), none, .bin .mul (.c (.int .i64 2)) (.t 31)⟩,
       ⟨(some 7), none, .mv (.c (.int .i64 0))⟩,
       ⟨(some 8), none, .mv (.t 32)⟩] false)
     (.seq (.blk 4 (.loop (.seq (.seq (.ops [
           ⟨(some 33), none, .mv (.t 8)⟩,
           ⟨(some 34), none, .mv (.t 1)⟩,
           ⟨(some 35), none, .bin .leq (.t 33) (.t 34)⟩] false)
         (.cond (.t 35) (.skip)
         (.exit 4)))
        (.blk 5 (.seq (.ops [
           ⟨(some 36), none, .mv (.t 0)⟩,
           ⟨(some 37), none, .mv (.t 7)⟩,
           ⟨(some 38), none, .mv (.t 7)⟩,
           ⟨(some 39), none, .mv (.t 6)⟩,
           ⟨(some 40), none, .bin .add (.t 38) (.t 39)⟩,
           ⟨(some 41), none, .mv (.t 8)⟩,
           ⟨(some 42), none, .mv (.t 2)⟩,
           ⟨(some 43), none, .call sym [(.t 36), (.t 37), (.t 40), (.t 41), (.t 42)]⟩] false)
         (.seq (.ops [
           ⟨(some 44), none, .mv (.t 8)⟩,
           ⟨(some 7), none, .mv (.t 44)⟩] false)
         (.ops [
          ⟨(some 45), none, .mv (.t 8)⟩,
          ⟨(some 46), none, .mv (.t 6)⟩,
          ⟨(some 47), none, .bin .mul (.c (.int .i64 2)) (.t 46)⟩,
          ⟨(some 48), none, .bin .add (.t 45) (.t 47)⟩,
          ⟨(some 8), none, .mv (.t 48)⟩] false)))))))
     (.seq (.seq (.ops [
        ⟨(some 49), none, .mv (.t 7)⟩,
        ⟨(some 50), none, .mv (.t 6)⟩,
        ⟨(some 51), none, .bin .add (.t 49) (.t 50)⟩,
        ⟨(some 9), none, .mv (.t 51)⟩] false)
      (.seq (.ops [
        ⟨(some 52), none, .mv (.t 9)⟩,
        ⟨(some 53), none, .mv (.t 1)⟩,
        ⟨(some 54), none, .bin .lss (.t 52) (.t 53)⟩] false)
      (.cond (.t 54) (.ops [
        ⟨(some 55), none, .mv (.t 0)⟩,
        ⟨(some 56), none, .mv (.t 7)⟩,
        ⟨(some 57), none, .mv (.t 9)⟩,
        ⟨(some 58), none, .mv (.t 1)⟩,
        ⟨(some 59), none, .mv (.t 2)⟩,
        ⟨(some 60), none, .call sym [(.t 55), (.t 56), (.t 57), (.t 58), (.t 59)]⟩] false)
      (.skip))))
     (.ops [
      ⟨(some 61), none, .mv (.t 6)⟩,
      ⟨(some 62), none, .bin .mul (.t 61) (.c (.int .i64 2))⟩,
      ⟨(some 6), none, .mv (.t 62)⟩] false)))))))))))) }

def irSortStable (stb : Nat) : IFn :=
 { nt := 9, res := [], body := (
  .ops [
   ⟨(some 4), none, .mv (.t 0)⟩,
   ⟨(some 5), none, .mv (.t 0)⟩,
   ⟨(some 6), none, .lenL (.t 5)⟩,
   ⟨(some 7), none, .mv (.t 1)⟩,
   ⟨(some 8), none, .call stb [(.t 4), (.t 6), (.t 7)]⟩] false) }

def irCloneM (sz bytes e : Nat) : IFn :=
 { nt := 8, res := [.t 2], body := (
  .seq (.ops [
    ⟨(some 2), none, .mv (.c (.sl true sz []))⟩] false)
  (.seq (.seq (.ops [
     ⟨(some 3), none, .mv (.t 0)⟩,
     ⟨(some 4), none, .isNilS false (.t 3)⟩] false)
   (.cond (.t 4) (.seq (.ops [
      ⟨(some 2), none, .mv (.c (.sl true sz []))⟩] false)
    (.ret))
   (.skip)))
  (.seq (.ops [
    ⟨(some 5), none, .bsliceM sz []⟩,
    ⟨(some 6), none, .mv (.t 0)⟩,
    ⟨(some 7), none, .app sz bytes e (.t 5) (.t 6)⟩,
    ⟨(some 2), none, .mv (.t 7)⟩] false)
  (.ret)))) }

def irIsNaN : IFn :=
 { nt := 6, res := [.t 2], body := (
  .seq (.ops [
    ⟨(some 2), none, .mv (.c (.bool false))⟩] false)
  (.seq (.ops [
    ⟨(some 3), none, .mv (.t 0)⟩,
    ⟨(some 4), none, .mv (.t 0)⟩,
    ⟨(some 5), none, .bin .neq (.t 3) (.t 4)⟩,
    ⟨(some 2), none, .mv (.t 5)⟩] false)
  (.ret))) }

def irCompare (nan : Nat) : IFn :=
 { nt := 20, res := [.t 4], body := (
  .seq (.ops [
    ⟨(some 4), none, .mv (.c (.int .i64 0))⟩] false)
  (.seq (.ops [
    ⟨(some 7), none, .mv (.t 0)⟩,
    ⟨(some 8), none, .call nan [(.t 7)]⟩,
    ⟨(some 5), none, .mv (.t 8)⟩] false)
  (.seq (.ops [
    ⟨(some 9), none, .mv (.t 1)⟩,
    ⟨(some 10), none, .call nan [(.t 9)]⟩,
    ⟨(some 6), none, .mv (.t 10)⟩] false)
  (.seq (.seq (.ops [
     ⟨(some 11), none, .mv (.t 5)⟩] false)
   (.cond (.t 11) (.seq (.seq (.ops [
       ⟨(some 12), none, .mv (.t 6)⟩] false)
     (.cond (.t 12) (.seq (.ops [
        ⟨(some 4), none, .mv (.c (.int .i64 0))⟩] false)
      (.ret))
     (.skip)))
    (.seq (.ops [
      ⟨(some 4), none, .mv (.c (.int .i64 (-1)))⟩] false)
    (.ret)))
   (.skip)))
  (.seq (.seq (.ops [
     ⟨(some 13), none, .mv (.t 6)⟩] false)
   (.cond (.t 13) (.seq (.ops [
      ⟨(some 4), none, .mv (.c (.int .i64 1))⟩] false)
    (.ret))
   (.skip)))
  (.seq (.seq (.ops [
     ⟨(some 14), none, .mv (.t 0)⟩,
     ⟨(some 15), none, .mv (.t 1)⟩,
     ⟨(some 16), none, .bin .lss (.t 14) (.t 15)⟩] false)
   (.cond (.t 16) (.seq (.ops [
      ⟨(some 4), none, .mv (.c (.int .i64 (-1)))⟩] false)
    (.ret))
   (.skip)))
  (.seq (.seq (.ops [
     ⟨(some 17), none, .mv (.t 0)⟩,
     ⟨(some 18), none, .mv (.t 1)⟩,
     ⟨(some 19), none, .bin .gtr (.t 17) (.t 18)⟩] false)
   (.cond (.t 19) (.seq (.ops [
      ⟨(some 4), none, .mv (.c (.int .i64 1))⟩] false)
    (.ret))
   (.skip)))
  (.seq (.ops [
    ⟨(some 4), none, .mv (.c (.int .i64 0))⟩] false)
  (.ret))))))))) }

end Go.Zam

namespace Go.Zam
set_option linter.all false
set_option maxRecDepth 100000
set_option maxHeartbeats 1000000

/-- a row of an array that is written -/
def rowE {α : Type} (enc : α → List D) (e : α) : List A := (enc e).map .d
/-- an array that is written -/
def arrE {α : Type} (enc : α → List D) (sz : Nat) (L : List α) : Ob := .arr sz (L.map (rowE enc))

section
variable {α : Type} {enc : α → List D} {sz : Nat}

theorem rowE_length (hsz : ∀ x, (enc x).length = sz) (x : α) : (rowE enc x).length = sz := by simp [rowE, hsz]
theorem rowE_flat2 (x : α) : (∀ u, u ∈ rowE enc x → u.flat = true) = True := eq_true fun u hu => by obtain ⟨d, -, rfl⟩ := List.mem_map.1 hu; rfl
theorem arrE_clr (n : Nat) (L : List α) : (arrE enc sz L).clr n = arrE enc sz L := by
  simp only [arrE, Ob.clr, List.map_map]
  congr 1
  refine List.map_congr_left fun x _ => ?_
  simp [rowE, A.clr0]

theorem setL_whole {β : Type} : ∀ (cs pre r : List β), r.length = cs.length → setL (pre ++ r) pre.length cs = pre ++ cs
  | [], pre, r, h => by
    have : r = [] := List.eq_nil_of_length_eq_zero (by simpa using h)
    subst this; rfl
  | x :: cs, pre, [], h => by simp at h
  | x :: cs, pre, y :: r, h => by
    rw [setL]
    have h1 : (pre ++ y :: r).set pre.length x = (pre ++ [x]) ++ r := by simp
    rw [h1]
    have := setL_whole cs (pre ++ [x]) r (by simpa using h)
    simp only [List.length_append, List.length_singleton] at this
    rw [this]; simp

theorem arr_iaddr {H : Hp} {i n : Nat} {L : List α} (hi : H[i]? = some (arrE enc sz L)) {k : Nat} {q : Int} (hq : q = k) (hk : k < n) :
    iaddrA H sz (.msl i 0 n) (.d (.int .i64 q)) = some (.aptr i k 0) := by
  subst hq
  simp only [iaddrA, hi, arrE]
  rw [if_pos ⟨trivial, by omega, by omega⟩]
  simp

theorem arr_ld (hsz : ∀ x, (enc x).length = sz) {H : Hp} {i : Nat} {L : List α} (hi : H[i]? = some (arrE enc sz L)) {k : Nat} {e : α} (hk : L[k]? = some e) : ldA H sz (.aptr i k 0) = some (rowE enc e) := by
  simp only [ldA, hi, arrE, List.getElem?_map, hk, Option.map_some, cutL, rowE_length hsz]
  rw [if_pos (by omega)]
  simp [← rowE_length hsz e]

theorem arr_st (hsz : ∀ x, (enc x).length = sz) {H : Hp} {i : Nat} {L : List α} (hi : H[i]? = some (arrE enc sz L)) {k : Nat} {e : α} (hk : k < L.length) : stA H (rowE enc e) (.aptr i k 0) = some (H.set i (arrE enc sz (L.set k e))) := by
  have h1 : (L.map (rowE enc))[k]? = some (rowE enc L[k]) := by simp [hk]
  simp only [stA, hi, arrE, h1, rowE_length hsz]
  rw [if_pos (by omega)]
  have := setL_whole (rowE enc e) [] (rowE enc L[k]) (by simp [rowE_length hsz])
  simp only [List.nil_append, List.length_nil] at this
  rw [this, List.map_set]

end

theorem Hp.cut_set (n i : Nat) (H : Hp) (x : Ob) : Hp.cut n (H.set i x) = (Hp.cut n H).set i (x.clr n) := by
  simp only [Hp.cut, List.take_set, List.map_set]

theorem get_mid {α : Type} {L u v : List α} {e : α} {k : Nat} (h : L = u ++ e :: v) (hk : k = u.length) : L[k]? = some e := by
  subst h; subst hk; simp
theorem set_mid {α : Type} {L u v : List α} {e e' : α} {k : Nat} (h : L = u ++ e :: v) (hk : k = u.length) : L.set k e' = u ++ e' :: v := by
  subst h; subst hk; simp

theorem clr_d (m : Nat) (x : D) : (A.d x).clr m = .d x := by simp
theorem clr_msl {i m : Nat} (h : i < m) (a b : Nat) : (A.msl i a b).clr m = .msl i a b := by simp [h]

theorem set_same {α : Type} {l : List α} {i : Nat} {x : α} (h : l[i]? = some x) : l.set i x = l := by
  obtain ⟨h1, h2⟩ := List.getElem?_eq_some_iff.1 h
  subst h2; simp

section
variable {P : Program} {α : Type} {enc : α → List D} {sz : Nat}

theorem swapRange_acall (hsz : ∀ x, (enc x).length = sz) {f : FuncId} {fn : Func} (hf : P.funcs[f]? = some fn) (hcf : compF P [] fn = some (irSwapRange sz))
    {H : Hp} {i : Nat} {g : A} {L p x r y q : List α} {a b n : Int} (hL : L = p ++ (x ++ (r ++ (y ++ q)))) (hxy : x.length = y.length) (ha : a = p.length) (hb : b = p.length + x.length + r.length) (hn : n = x.length)
    (hi : H[i]? = some (arrE enc sz L)) (hbd : L.length ≤ 1099511627776) :
    ACall P f [.msl i 0 L.length, .d (.int .i64 a), .d (.int .i64 b), .d (.int .i64 n), g] H (fun r' H' => r' = .tup [] ∧ H' = H.set i (arrE enc sz (p ++ (y ++ (r ++ (x ++ q)))))) := by
  have hil : i < H.length := (List.getElem?_eq_some_iff.1 hi).1
  have hgs : ∀ X : Ob, (H.set i X)[i]? = some X := fun X => List.getElem?_set_self hil
  have hLl : p.length + x.length + r.length + y.length + q.length = L.length := by rw [hL]; simp; omega
  refine acall_fin hf hcf (by simp [irSwapRange]) fun hcl _ => ?_
  simp [irSwapRange]
  refine LoopK_of H.length (fun fr H' => ∃ x1 x2 y1 y2 M, ∃ k : Nat, M = p ++ ((y1 ++ x2) ++ (r ++ ((x1 ++ y2) ++ q))) ∧ x = x1 ++ x2 ∧ y = y1 ++ y2 ∧ x1.length = k ∧ y1.length = k ∧
      fr 0 = .msl i 0 L.length ∧ fr 1 = .d (.int .i64 a) ∧ fr 2 = .d (.int .i64 b) ∧ fr 3 = .d (.int .i64 n) ∧ fr 10 = .d (.int .i64 (k : Int)) ∧ H' = H.set i (arrE enc sz M))
    (fun fr H' => match fr 10 with | .d (.int _ k) => (n - k).toNat | _ => 0) (by simp) ?_ ?_
  · refine ⟨[], x, [], y, L, 0, by simpa using hL, ?_⟩
    simp [cut_self hcl, set_same hi, hil]
  rintro fr H' ⟨x1, x2, y1, y2, M, k, hM, hx, hy, hx1, hy1, f0, f1, f2, f3, f10, rfl⟩
  simp [f3, f10]
  refine BrK_split (fun h => ?_) (fun h => ?_)
  · simp only [decide_eq_true_eq] at h
    have hxl : x.length = x1.length + x2.length := by rw [hx]; simp
    have hyl : y.length = y1.length + y2.length := by rw [hy]; simp
    obtain ⟨e, x2, rfl⟩ : ∃ e r, x2 = e :: r := by
      cases x2 with
      | nil => simp at hxl; omega
      | cons e r => exact ⟨e, r, rfl⟩
    obtain ⟨d, y2, rfl⟩ : ∃ e r, y2 = e :: r := by
      cases y2 with
      | nil => simp at hyl; omega
      | cons e r => exact ⟨e, r, rfl⟩
    simp only [List.length_cons] at hxl hyl
    have w1 : IntKind.i64.wrap (a + k) = a + k := wrap_i64 (by omega) (by omega)
    have w2 : IntKind.i64.wrap (b + k) = b + k := wrap_i64 (by omega) (by omega)
    have hw : IntKind.i64.wrap ((k : Int) + 1) = k + 1 := wrap_i64 (by omega) (by omega)
    have hMl : M.length = L.length := by rw [hM]; simp; omega
    have m1 : M = (p ++ y1) ++ e :: (x2 ++ (r ++ ((x1 ++ d :: y2) ++ q))) := by rw [hM]; simp
    have m2 : M = (p ++ (y1 ++ e :: x2) ++ r ++ x1) ++ d :: (y2 ++ q) := by rw [hM]; simp
    have g1 := get_mid (k := p.length + k) m1 (by simp; omega)
    have g2 := get_mid (k := p.length + x.length + r.length + k) m2 (by simp; omega)
    have s1 := set_mid (e' := d) (k := p.length + k) m1 (by simp; omega)
    have m3 : M.set (p.length + k) d = (p ++ (y1 ++ d :: x2) ++ r ++ x1) ++ d :: (y2 ++ q) := by rw [s1]; simp
    have s2 := set_mid (e' := e) (k := p.length + x.length + r.length + k) m3 (by simp; omega)
    have i1 : ∀ M' : List α, iaddrA (H.set i (arrE enc sz M')) sz (.msl i 0 L.length) (.d (.int .i64 (a + k))) = some (.aptr i (p.length + k) 0) := fun M' => arr_iaddr (hgs _) (by omega) (by omega)
    have i2 : ∀ M' : List α, iaddrA (H.set i (arrE enc sz M')) sz (.msl i 0 L.length) (.d (.int .i64 (b + k))) = some (.aptr i (p.length + x.length + r.length + k) 0) := fun M' => arr_iaddr (hgs _) (by omega) (by omega)
    have l1 := arr_ld hsz (hgs (arrE enc sz M)) g1
    have l2 := arr_ld hsz (hgs (arrE enc sz M)) g2
    have t1 := arr_st hsz (hgs (arrE enc sz M)) (k := p.length + k) (e := d) (by omega)
    have t2 := arr_st hsz (hgs (arrE enc sz (M.set (p.length + k) d))) (k := p.length + x.length + r.length + k) (e := e) (by simp; omega)
    rw [List.set_set] at t1 t2
    rw [s2] at t2
    have hE : ∀ z : α, (rowE enc z).length = sz := rowE_length hsz
    have hF : ∀ z : α, (∀ u, u ∈ rowE enc z → u.flat = true) = True := rowE_flat2
    simp [f0, f1, f2, f3, f10, w1, w2, i1, i2, l1, l2, t1, t2, hE, hF, -iaddrA, -ldA, -stA, -A.flat]
    simp [f10, hw]
    refine AgainK_of (m := H.length) (by simp) ⟨x1 ++ [e], x2, y1 ++ [d], y2, p ++ (y1 ++ d :: x2) ++ r ++ x1 ++ e :: (y2 ++ q), k + 1, by simp, by simpa using hx, by simpa using hy, by simp [hx1], by simp [hy1], ?_⟩ ?_
    · simp [f0, f1, f2, f3, f10, Hp.cut_set, cut_self hcl, arrE_clr, hil, -Ob.clr]
    · simp; omega
  · simp only [decide_eq_false_iff_not] at h
    have hx2 : x2 = [] := by
      have := congrArg List.length hx
      simp at this
      exact List.eq_nil_of_length_eq_zero (by omega)
    have hy2 : y2 = [] := by
      have := congrArg List.length hy
      simp at this
      exact List.eq_nil_of_length_eq_zero (by omega)
    subst hx2; subst hy2
    simp only [List.append_nil] at hx hy
    subst hx; subst hy
    simp [RetK, Hp.cut_set, cut_self hcl, arrE_clr, hM, -Ob.clr]

theorem rotate_acall (hsz : ∀ x, (enc x).length = sz) {f f2 : FuncId} {fn fn2 : Func} (hf : P.funcs[f]? = some fn) (hcf : compF P [] fn = some (irRotate f2)) (hf2 : P.funcs[f2]? = some fn2) (hcf2 : compF P [] fn2 = some (irSwapRange sz))
    {H : Hp} {i : Nat} {g : A} (hg : ∀ m, H.length ≤ m → g.clr m = g) {L p x y q : List α} {a m b : Int} (hL : L = p ++ (x ++ (y ++ q))) (hx0 : 0 < x.length) (hy0 : 0 < y.length) (ha : a = p.length) (hm : m = p.length + x.length) (hb : b = p.length + x.length + y.length)
    (hi : H[i]? = some (arrE enc sz L)) (hbd : L.length ≤ 1099511627776) :
    ACall P f [.msl i 0 L.length, .d (.int .i64 a), .d (.int .i64 m), .d (.int .i64 b), g] H (fun r' H' => r' = .tup [] ∧ H' = H.set i (arrE enc sz (p ++ (y ++ (x ++ q))))) := by
  have hil : i < H.length := (List.getElem?_eq_some_iff.1 hi).1
  have hgs : ∀ X : Ob, (H.set i X)[i]? = some X := fun X => List.getElem?_set_self hil
  have hLl : p.length + x.length + y.length + q.length = L.length := by rw [hL]; simp; omega
  have w1 : IntKind.i64.wrap (m - a) = m - a := wrap_i64 (by omega) (by omega)
  have w2 : IntKind.i64.wrap (b - m) = b - m := wrap_i64 (by omega) (by omega)
  refine acall_fin hf hcf (by simp [irRotate]) fun hcl _ => ?_
  simp [irRotate, w1, w2]
  refine LoopK_of H.length (fun fr H' => ∃ p' x' y' q' M, M = p' ++ (x' ++ (y' ++ q')) ∧ p' ++ (y' ++ (x' ++ q')) = p ++ (y ++ (x ++ q)) ∧ M.length = L.length ∧ (p'.length : Int) + x'.length = m ∧ 0 < x'.length ∧ 0 < y'.length ∧
      fr 0 = .msl i 0 L.length ∧ fr 2 = .d (.int .i64 m) ∧ fr 4 = g ∧ fr 10 = .d (.int .i64 (x'.length : Int)) ∧ fr 11 = .d (.int .i64 (y'.length : Int)) ∧ H' = H.set i (arrE enc sz M))
    (fun fr H' => match fr 10, fr 11 with | .d (.int _ k), .d (.int _ l) => (k + l).toNat | _, _ => 0) (by simp) ?_ ?_
  · refine ⟨p, x, y, q, L, hL, rfl, rfl, by omega, hx0, hy0, ?_⟩
    simp [cut_self hcl, set_same hi, hil, hg, w1, w2, clr_d, clr_msl hil, -A.clr]
    omega
  rintro fr H' ⟨p', x', y', q', M, hM, he, hMl, hpx, hx1, hy1, f0, f2, f4, f10, f11, rfl⟩
  have hMl2 : p'.length + x'.length + y'.length + q'.length = L.length := by rw [← hMl, hM]; simp; omega
  have v1 : IntKind.i64.wrap (m - x'.length) = m - x'.length := wrap_i64 (by omega) (by omega)
  have v2 : IntKind.i64.wrap (m + y'.length) = m + y'.length := wrap_i64 (by omega) (by omega)
  have v3 : IntKind.i64.wrap (m + y'.length - x'.length) = m + y'.length - x'.length := wrap_i64 (by omega) (by omega)
  have v4 : IntKind.i64.wrap ((x'.length : Int) - y'.length) = x'.length - y'.length := wrap_i64 (by omega) (by omega)
  have v5 : IntKind.i64.wrap ((y'.length : Int) - x'.length) = y'.length - x'.length := wrap_i64 (by omega) (by omega)
  simp [f10, f11]
  refine BrK_split (fun h => ?_) (fun h => ?_)
  · have hne : x'.length ≠ y'.length := by simp at h; omega
    simp [f0, f2, f4, f10, f11]
    refine BrK_split (fun h2 => ?_) (fun h2 => ?_)
    · have h2 : y'.length < x'.length := by simpa using h2
      -- x' = u ++ v, |u| = |y'| : swap u and y'
      obtain ⟨u, v, hx', hu⟩ : ∃ u v, x' = u ++ v ∧ u.length = y'.length := ⟨x'.take y'.length, x'.drop y'.length, by simp, by simp; omega⟩
      have hl' : x'.length = u.length + v.length := by rw [hx']; simp
      have hsw := swapRange_acall hsz hf2 hcf2 (H := H.set i (arrE enc sz M)) (i := i) (g := g) (L := M) (p := p') (x := u) (r := v) (y := y') (q := q') (a := m - x'.length) (b := m) (n := y'.length)
        (by rw [hM, hx']; simp) hu (by omega) (by omega) (by omega) (hgs _) (by omega)
      rw [hMl, List.set_set] at hsw
      simp [f0, f2, f4, f10, f11, v1]
      refine CallK_of' hsw ?_
      simp [f10, f11, v4]
      have hv : ((x'.length : Int) - y'.length) = v.length := by omega
      refine AgainK_of (m := H.length) (by simp) ⟨p' ++ y', v, u, q', p' ++ (y' ++ (v ++ (u ++ q'))), by simp, ?_, ?_, ?_, by omega, by omega, ?_⟩ ?_
      · rw [← he, hx']; simp
      · simp; omega
      · simp; omega
      · simp [f0, f2, f4, f10, f11, hg, Hp.cut_set, cut_self hcl, arrE_clr, hv, hu, clr_d, clr_msl hil, -Ob.clr, -A.clr]
      · simp [f11]; omega
    · have h2 : x'.length < y'.length := by simp at h2; omega
      -- y' = u ++ v, |v| = |x'| : swap x' and v
      obtain ⟨u, v, hy', hv⟩ : ∃ u v, y' = u ++ v ∧ v.length = x'.length := ⟨y'.take (y'.length - x'.length), y'.drop (y'.length - x'.length), by simp, by simp; omega⟩
      have hl' : y'.length = u.length + v.length := by rw [hy']; simp
      have hsw := swapRange_acall hsz hf2 hcf2 (H := H.set i (arrE enc sz M)) (i := i) (g := g) (L := M) (p := p') (x := x') (r := u) (y := v) (q := q') (a := m - x'.length) (b := m + y'.length - x'.length) (n := x'.length)
        (by rw [hM, hy']; simp) hv.symm (by omega) (by omega) rfl (hgs _) (by omega)
      rw [hMl, List.set_set] at hsw
      simp [f0, f2, f4, f10, f11, v1, v2, v3]
      refine CallK_of' hsw ?_
      simp [f10, f11, v5]
      have hu : ((y'.length : Int) - x'.length) = u.length := by omega
      refine AgainK_of (m := H.length) (by simp) ⟨p', v, u, x' ++ q', p' ++ (v ++ (u ++ (x' ++ q'))), by simp, ?_, ?_, ?_, by omega, by omega, ?_⟩ ?_
      · rw [← he, hy']; simp
      · simp; omega
      · omega
      · simp [f0, f2, f4, f10, f11, hg, Hp.cut_set, cut_self hcl, arrE_clr, hu, hv, clr_d, clr_msl hil, -Ob.clr, -A.clr]
      · simp [f10]; omega
  · have heq : x'.length = y'.length := by simp at h; omega
    have hsw := swapRange_acall hsz hf2 hcf2 (H := H.set i (arrE enc sz M)) (i := i) (g := g) (L := M) (p := p') (x := x') (r := []) (y := y') (q := q') (a := m - x'.length) (b := m) (n := x'.length)
      (by rw [hM]; simp) heq (by omega) (by simp; omega) rfl (hgs _) (by omega)
    rw [hMl, List.set_set] at hsw
    simp [f0, f2, f4, f10, f11, v1]
    refine CallK_of' hsw ?_
    simp [RetK, Hp.cut_set, cut_self hcl, arrE_clr, he, -Ob.clr]

end
end Go.Zam

namespace Go.Zam
set_option linter.all false
set_option maxRecDepth 100000
set_option maxHeartbeats 1000000

/-- a comparison, as a function of the program -/
def CmpA {α : Type} (P : Program) (enc : α → List D) (c : α → α → Int) (g : A) : Prop :=
  ∀ (H : Hp) (x y : α) (Q : A → Hp → Prop) (t : Tag Q), Q (.d (.int .i64 (c x y))) H → ValD Q t P [.agg (rowE enc x), .agg (rowE enc y)] H g

section
variable {P : Program} {α : Type} {enc : α → List D} {sz : Nat} {c : α → α → Int}

theorem insertion_acall (hsz : ∀ x, (enc x).length = sz) (hc : Cmp c) {f : FuncId} {fn : Func} (hf : P.funcs[f]? = some fn) (hcf : compF P [] fn = some (irInsertion sz))
    {H : Hp} {i : Nat} {g : A} (hg : ∀ m, H.length ≤ m → g.clr m = g) (hcmp : CmpA P enc c g) {L p s q : List α} {a b : Int} (hL : L = p ++ (s ++ q)) (ha : a = p.length) (hb : b = p.length + s.length)
    (hi : H[i]? = some (arrE enc sz L)) (hbd : L.length ≤ 1099511627776) :
    ACall P f [.msl i 0 L.length, .d (.int .i64 a), .d (.int .i64 b), g] H (fun r' H' => r' = .tup [] ∧ H' = H.set i (arrE enc sz (p ++ (ssort c s ++ q)))) := by
  have hil : i < H.length := (List.getElem?_eq_some_iff.1 hi).1
  have hgs : ∀ X : Ob, (H.set i X)[i]? = some X := fun X => List.getElem?_set_self hil
  have hLl : p.length + s.length + q.length = L.length := by rw [hL]; simp; omega
  have wa : IntKind.i64.wrap (a + 1) = a + 1 := wrap_i64 (by omega) (by omega)
  have hE : ∀ z : α, (rowE enc z).length = sz := rowE_length hsz
  have hF : ∀ z : α, (∀ u, u ∈ rowE enc z → u.flat = true) = True := rowE_flat2
  refine acall_fin hf hcf (by simp [irInsertion]) fun hcl _ => ?_
  simp [irInsertion, wa]
  refine LoopK_of H.length (fun fr H' => ∃ done todo M, ∃ k : Nat, s = done ++ todo ∧ done.length = min (k + 1) s.length ∧ M = p ++ (ssort c done ++ (todo ++ q)) ∧
      fr 0 = .msl i 0 L.length ∧ fr 1 = .d (.int .i64 a) ∧ fr 2 = .d (.int .i64 b) ∧ fr 3 = g ∧ fr 8 = .d (.int .i64 (a + 1 + k)) ∧ H' = H.set i (arrE enc sz M))
    (fun fr H' => match fr 8 with | .d (.int _ k) => (b - k).toNat | _ => 0) (by simp) ?_ ?_
  · refine ⟨s.take 1, s.drop 1, L, 0, (List.take_append_drop 1 s).symm, by simp, ?_, ?_⟩
    · have : ssort c (s.take 1) = s.take 1 := ssort_sorted hc (by cases s <;> simp [Sorted])
      rw [this, hL]
      congr 1
      rw [← List.append_assoc, List.take_append_drop]
    · simp [cut_self hcl, set_same hi, hil, hg, wa, clr_d, clr_msl hil, -A.clr]
  rintro fr H' ⟨done, todo, M, k, hs, hd, hM, f0, f1, f2, f3, f8, rfl⟩
  simp [f2, f8]
  refine BrK_split (fun h => ?_) (fun h => ?_)
  · simp only [decide_eq_true_eq] at h
    have hsl : s.length = done.length + todo.length := by rw [hs]; simp
    obtain ⟨x, todo, rfl⟩ : ∃ e r, todo = e :: r := by
      cases todo with
      | nil => simp at hsl; omega
      | cons e r => exact ⟨e, r, rfl⟩
    simp only [List.length_cons] at hsl
    have hdk : done.length = k + 1 := by omega
    have hdl := ssort_length hc done
    simp [f0, f1, f2, f3, f8]
    refine LoopK_of H.length (fun fr H' => ∃ u v M, ∃ j : Nat, ssort c done = u ++ v ∧ (∀ y ∈ v, c x y < 0) ∧ M = p ++ (u ++ x :: (v ++ (todo ++ q))) ∧ j = p.length + u.length ∧
        fr 0 = .msl i 0 L.length ∧ fr 1 = .d (.int .i64 a) ∧ fr 2 = .d (.int .i64 b) ∧ fr 3 = g ∧ fr 8 = .d (.int .i64 (a + 1 + k)) ∧ fr 9 = .d (.int .i64 (j : Int)) ∧ H' = H.set i (arrE enc sz M))
      (fun fr H' => match fr 9 with | .d (.int _ k) => k.toNat | _ => 0) (by simp) ?_ ?_
    · refine ⟨ssort c done, [], M, p.length + (ssort c done).length, by simp, by simp, by simpa using hM, rfl, ?_⟩
      simp [f0, f1, f2, f3, f8, Hp.cut_set, cut_self hcl, hil, hg, arrE_clr, clr_d, clr_msl hil, -A.clr, -Ob.clr]
      omega
    have f8o := f8
    clear hM f0 f1 f2 f3 f8
    rintro fr H' ⟨u, v, M, j, huv, hv, hM, hj, f0, f1, f2, f3, f8, f9, rfl⟩
    have huvl : u.length + v.length = k + 1 := by rw [← hdk, ← hdl, huv]; simp
    have hMl : M.length = L.length := by rw [hM]; simp; omega
    have fin : (∀ y ∈ u, c y x ≤ 0) → ssort c (done ++ [x]) = u ++ x :: v := fun hu => by
      have h1 : Alk c (done ++ [x]) (ssort c done ++ [x]) := (ssort_spec hc done).2.append (Alk.refl _)
      rw [← ssort_alk hc h1, huv]
      exact ssort_snoc hc (by rw [← huv]; exact (ssort_spec hc done).1) hu hv
    have hsd : Sorted c (u ++ v) := by rw [← huv]; exact (ssort_spec hc done).1
    have w8 : IntKind.i64.wrap (a + 1 + k + 1) = a + 1 + k + 1 := wrap_i64 (by omega) (by omega)
    simp [f0, f1, f9]
    refine GdK_split (by simp) (fun h1 => ?_) (fun h1 => ?_)
    · have h1 : a < (j : Int) := by simpa using h1
      obtain ⟨u, y, rfl⟩ : ∃ u' y, u = u' ++ [y] := by
        rcases List.eq_nil_or_concat u with h0 | ⟨u', y, h0⟩
        · subst h0; simp at hj; omega
        · exact ⟨u', y, by simpa using h0⟩
      simp only [List.length_append, List.length_singleton] at hj huvl
      have w1 : IntKind.i64.wrap ((j : Int) - 1) = j - 1 := wrap_i64 (by omega) (by omega)
      have m1 : M = (p ++ u) ++ y :: (x :: (v ++ (todo ++ q))) := by rw [hM]; simp
      have m2 : M = (p ++ u ++ [y]) ++ x :: (v ++ (todo ++ q)) := by rw [hM]; simp
      have g1 := get_mid (k := j - 1) m1 (by simp; omega)
      have g2 := get_mid (k := j) m2 (by simp; omega)
      have i1 : ∀ M' : List α, iaddrA (H.set i (arrE enc sz M')) sz (.msl i 0 L.length) (.d (.int .i64 (j - 1))) = some (.aptr i (j - 1) 0) := fun M' => arr_iaddr (hgs _) (by omega) (by omega)
      have i2 : ∀ M' : List α, iaddrA (H.set i (arrE enc sz M')) sz (.msl i 0 L.length) (.d (.int .i64 j)) = some (.aptr i j 0) := fun M' => arr_iaddr (hgs _) (by omega) (by omega)
      have l1 := arr_ld hsz (hgs (arrE enc sz M)) g1
      have l2 := arr_ld hsz (hgs (arrE enc sz M)) g2
      have t1 := arr_st hsz (hgs (arrE enc sz M)) (k := j) (e := y) (by omega)
      have t2 := arr_st hsz (hgs (arrE enc sz (M.set j y))) (k := j - 1) (e := x) (by simp; omega)
      have s1 := set_mid (e' := y) (k := j) m2 (by simp; omega)
      have m3 : M.set j y = (p ++ u) ++ y :: (y :: (v ++ (todo ++ q))) := by rw [s1]; simp
      have s2 := set_mid (e' := x) (k := j - 1) m3 (by simp; omega)
      rw [List.set_set] at t1 t2
      rw [s2] at t2
      simp [f0, f1, f3, f9, w1, h1, i1, i2, l1, l2, -iaddrA, -ldA, -stA]
      refine hcmp _ x y _ _ ?_
      simp [f0, f1, f3, f9, h1]
      refine BrK_split (fun h2 => ?_) (fun h2 => ?_)
      · have h2 : c x y < 0 := by simpa using h2
        simp [f0, f1, f3, f9, w1, h1, i1, i2, l1, l2, t1, t2, hE, hF, -iaddrA, -ldA, -stA, -A.flat]
        have hj1 : ((j : Int) - 1) = (j - 1 : Nat) := by omega
        refine AgainK_of (m := H.length) (by simp) ⟨u, y :: v, p ++ u ++ x :: (y :: (v ++ (todo ++ q))), j - 1, by rw [huv]; simp, ?_, by simp, by omega, ?_⟩ ?_
        · intro z hz
          rcases List.mem_cons.1 hz with h3 | h3
          · subst h3; exact h2
          · exact hv z h3
        · simp [f0, f1, f2, f3, f8, f9, hj1, Hp.cut_set, cut_self hcl, hil, hg, arrE_clr, clr_d, clr_msl hil, -A.clr, -Ob.clr]
        · simp [f9]; omega
      · have h2 : ¬ c x y < 0 := by simpa using h2
        have hu : ∀ z ∈ u ++ [y], c z x ≤ 0 := fun z hz => by
          have h3 : c y x ≤ 0 := hc.not_lt.1 h2
          rcases List.mem_append.1 hz with h4 | h4
          · have := (Sorted.append.1 (Sorted.append.1 hsd).1).2.2 z h4 y (by simp)
            exact hc.trans _ _ _ this h3
          · simp only [List.mem_singleton] at h4; subst h4; exact h3
        simp [f8, w8]
        refine AgainK_of (m := H.length) (by simp) ⟨done ++ [x], todo, M, k + 1, by simpa using hs, by simp; omega, ?_, ?_⟩ ?_
        · rw [hM, fin hu]; simp
        · simp [f0, f1, f2, f3, f8, f9, Hp.cut_set, cut_self hcl, hil, hg, arrE_clr, clr_d, clr_msl hil, -A.clr, -Ob.clr]
          omega
        · simp [f8o]; omega
    · have h1 : ¬ a < (j : Int) := by simpa using h1
      obtain rfl : u = [] := List.eq_nil_of_length_eq_zero (by omega)
      simp [h1, f8, w8]
      refine AgainK_of (m := H.length) (by simp) ⟨done ++ [x], todo, M, k + 1, by simpa using hs, by simp; omega, ?_, ?_⟩ ?_
      · rw [hM, fin (by simp)]; simp
      · simp [f0, f1, f2, f3, f8, f9, Hp.cut_set, cut_self hcl, hil, hg, arrE_clr, clr_d, clr_msl hil, -A.clr, -Ob.clr]
        omega
      · simp [f8o]; omega
  · simp only [decide_eq_false_iff_not] at h
    obtain rfl : todo = [] := by
      have := congrArg List.length hs
      simp at this
      exact List.eq_nil_of_length_eq_zero (by omega)
    simp only [List.append_nil] at hs
    subst hs
    simp [RetK, Hp.cut_set, cut_self hcl, arrE_clr, hM, -Ob.clr]

end
end Go.Zam
